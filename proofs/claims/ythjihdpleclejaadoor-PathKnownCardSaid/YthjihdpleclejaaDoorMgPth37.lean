/-
  Walk: the law PathKnown. No condition.
-/
import Derived.Test.YthjihdpleclejaaDoorMgPth36
import Derived.Test.YthjihdpleclejaaDoorMgPth22
import Derived.Test.YthjihdpleclejaaDoorMgPth32
namespace Go.Proofs.YthjihdpleclejaaDoor
open Go.RowKit Go.Proofs

set_option maxRecDepth 100000 in
set_option maxHeartbeats 16000000 in
theorem knownlaw_calls (w : World) (hT : Tabs w) (hM : Mx w) : Calls Tryd.prog 8 #[] w fun e w' => e = .returned (.bool true) ∧ Below w.heap.size w w' := by
  have hi := hid (fun n w => int_calls n w)
  have hn := hid (fun w => null_calls w)
  have hk := hid known_calls
  have hdo := hid (fun w cs h => doc_calls (bs1 98) (intV 2) (Now w) w cs (by decide) h (fun _ h => h))
  have hget := hid (fun (pa : ByteArray) (hpa : pa.size < 4294967281) (V : PVal) (hm : V.mass ≤ 1000000000000) (w' : World) cs (hb : Below w.heap.size w w') h => get_calls copy_deep pa hpa V hm (w := w') (cs := cs) (Tabs.stays w w' hT hb) (hM.stays hb) h)
  have hset := hid (fun (pa : ByteArray) (hpa : pa.size < 4294967281) (V x : PVal) (hm : V.mass ≤ 1073741824) (hx : x.mass ≤ 1073741824) (w' : World) cs xs (hb : Below w.heap.size w w') h h2 => set_calls pa hpa V x hm hx (w := w') (cs := cs) (xs := xs) (Tabs.stays w w' hT hb) (hM.stays hb) h h2)
  have huns := hid (fun (pa : ByteArray) (hpa : pa.size < 4294967281) (V : PVal) (hm : V.mass ≤ 1073741824) (w' : World) cs (hb : Below w.heap.size w w') h => unset_calls pa hpa V hm (w := w') (cs := cs) (Tabs.stays w w' hT hb) (hM.stays hb) h)
  have hpus := hid (fun (pa : ByteArray) (hpa : pa.size < 4294967281) (V x : PVal) (hm : V.mass ≤ 33554432) (hx : x.mass ≤ 33554432) (w' : World) cs xs (hb : Below w.heap.size w w') h h2 => push_calls pa hpa V x hm hx (w := w') (cs := cs) (xs := xs) (Tabs.stays w w' hT hb) (hM.stays hb) h h2)
  have hadd := hid (fun (pa : ByteArray) (hpa : pa.size < 4294967281) (V : PVal) (m : Int) (hmr : -9223372036854775808 ≤ m ∧ m ≤ 9223372036854775807) (hm : V.mass ≤ 1073741824) (w' : World) cs (hb : Below w.heap.size w w') h => add_calls pa hpa V m hmr hm (w := w') (cs := cs) (Tabs.stays w w' hT hb) (hM.stays hb) h)
  have htm := hid (fun (w' : World) (h : Below w.heap.size w w') => (⟨Tabs.stays w w' hT h, hM.stays h⟩ : Tabs w' ∧ Mx w'))
  have hmk : (knownV 2).mass ≤ 33554432 := by simp [knownV, docL, oneB, listV, intV, docV, textV, PVal.mass, massL, massF, bs1, ByteArray.size]
  have hmd : kD.mass ≤ 33554432 := by simp [kD, kE, docL, oneB, listV, intV, docV, textV, PVal.mass, massL, massF, bs1, ByteArray.size]
  have hmi : ∀ n, (intV n).mass ≤ 33554432 := fun n => by simp [intV, PVal.mass, massL, massF, ByteArray.size]
  have hmn : kN.mass ≤ 33554432 := by simp [kN, PVal.mass, massL, massF, ByteArray.size]
  have hg1 := hid (hget.out ⟨#[97, 46, 50]⟩ (by decide) (knownV 2) (by omega))
  have hg2 := hid (hget.out ⟨#[97, 46, 48, 49]⟩ (by decide) (knownV 2) (by omega))
  have hg4 := hid (hget.out ⟨#[100]⟩ (by decide) kD (by omega))
  have hs3 := hid (hset.out ⟨#[100, 46, 101]⟩ (by decide) (knownV 2) (intV 7) (by omega) (by have := hmi 7; omega))
  have hs5 := hid (hset.out ⟨#[97, 46, 48]⟩ (by decide) (knownV 2) kN (by omega) (by omega))
  have hs6 := hid (hset.out ⟨#[99, 46, 113]⟩ (by decide) (knownV 2) (intV 1) (by omega) (by have := hmi 1; omega))
  have hs7 := hid (hset.out ⟨#[97, 46, 50]⟩ (by decide) (knownV 2) (intV 1) (by omega) (by have := hmi 1; omega))
  have hu8 := hid (huns.out ⟨#[97, 46, 48]⟩ (by decide) (knownV 2) (by omega))
  have hu9 := hid (huns.out ⟨#[122]⟩ (by decide) (knownV 2) (by omega))
  have hp10 := hid (hpus.out ⟨#[97]⟩ (by decide) (knownV 2) (intV 3) hmk (hmi 3))
  have hp11 := hid (hpus.out ⟨#[99]⟩ (by decide) (knownV 2) (intV 1) hmk (hmi 1))
  have ha12 := hid (hadd.out ⟨#[97, 46, 48]⟩ (by decide) (knownV 2) 4 (by decide) (by omega))
  rw [k1] at hg1
  rw [k2] at hg2
  rw [k4] at hg4
  rw [k3] at hs3
  rw [k5] at hs5
  rw [k6] at hs6
  rw [k7] at hs7
  rw [k8] at hu8
  rw [k9] at hu9
  rw [k10] at hp10
  rw [k11] at hp11
  rw [k12] at ha12
  unfold Got6 at hg1 hg2 hg4
  unfold Done6 at hs3 hs5 hs6 hs7 hu8 hu9 hp10 hp11 ha12
  clear hT hM hget hset huns hpus hadd hmk hmd hmi hmn
  go_enter Tryd.func8, Tryd.ntmps8
  have D := hid (Below.refl w.heap.size w)
  go_wp2_with fail
  refine (hi.out 2 _).mono ?_
  rintro e w1 ⟨rfl, N0⟩
  have N := hid N0
  clear N0
  replace D := hid (D.out.step N.out)
  clear N
  go_wp2_with fail
  refine (hdo.out _ _ (rd_flat _ _ (k := 3) (n := 2) (s := ByteArray.empty) ⟨by decide, by decide⟩ ⟨by decide, by decide⟩ (by decide))).mono ?_
  rintro e w2 ⟨fa, fc, rfl, xb_, N0⟩
  replace xb_ : Hid (Rd w2 (Now w2) kB _) := xb_.keep (fun b hb => by
    rcases hb with hb | hb
    · exact Nat.lt_of_lt_of_le hb N0.size
    · exact hb.2) (fun _ _ => rfl)
  have N := hid N0
  clear N0
  replace D := hid (D.out.step N.out)
  have xb := xb_
  clear xb_
  clear N
  go_upto_region 2 with fail
  obtain ⟨w3, hw_⟩ : ∃ x, x = w2.alloc (.cells #[.int .i64 6, .int .i64 0, .string ByteArray.empty, .slice none 0 0, .slice fa 1 fc] 25) := ⟨_, rfl⟩
  have N : Hid (Below w2.heap.size w2 w3) := by show Below _ _ _; rw [hw_]; exact below_new _ _
  have r1_ : Hid (w3.heap[w2.heap.size]? = some (.cells #[.int .i64 6, .int .i64 0, .string ByteArray.empty, .slice none 0 0, .slice fa 1 fc] 25 (0, 0))) := by show _ = _; rw [hw_]; exact heap_alloc_new _ _
  rw [← hw_]
  clear hw_
  replace D := hid (D.out.step N.out)
  replace xb := hid (xb.out.later N.out)
  clear N
  have r1 := r1_
  clear r1_
  go_wp2_with fail
  refine (hi.out 1 _).mono ?_
  rintro e w4 ⟨rfl, N0⟩
  have N := hid N0
  clear N0
  replace D := hid (D.out.step N.out)
  replace r1 := hid ((N.out.block _ (lt_of_block r1.out)).trans r1.out)
  replace xb := hid (xb.out.later N.out)
  clear N
  go_upto_region 3 with fail
  obtain ⟨w5, hw_⟩ : ∃ x, x = w4.alloc (.cells #[.int .i64 3, .int .i64 1, .string ByteArray.empty, .slice none 0 0, .slice none 0 0] 25) := ⟨_, rfl⟩
  have N : Hid (Below w4.heap.size w4 w5) := by show Below _ _ _; rw [hw_]; exact below_new _ _
  have r2_ : Hid (w5.heap[w4.heap.size]? = some (.cells #[.int .i64 3, .int .i64 1, .string ByteArray.empty, .slice none 0 0, .slice none 0 0] 25 (0, 0))) := by show _ = _; rw [hw_]; exact heap_alloc_new _ _
  rw [← hw_]
  clear hw_
  replace D := hid (D.out.step N.out)
  replace r1 := hid ((N.out.block _ (lt_of_block r1.out)).trans r1.out)
  replace xb := hid (xb.out.later N.out)
  clear N
  have r2 := r2_
  clear r2_
  go_wp2_with fail
  refine (hk.out _).mono ?_
  rintro e w6 ⟨gk, hk_, rfl, N0, k_⟩
  have N := hid N0
  clear N0
  replace D := hid (D.out.step N.out)
  replace r1 := hid ((N.out.block _ (lt_of_block r1.out)).trans r1.out)
  replace r2 := hid ((N.out.block _ (lt_of_block r2.out)).trans r2.out)
  replace xb := hid (xb.out.later N.out)
  have xk := hid k_.now
  clear k_
  clear N
  go_wp2_with fail
  refine (hg1.out _ _ D.out xk.out).mono ?_
  rintro e w7 ⟨cs_, rfl, N0, xcc_⟩
  replace xcc_ : Rd w7 (Free _ _) (zeroP) cs_ := xcc_
  obtain ⟨cck, ccn, cct, cca, ccl, ccc, ccf, ccm, ccg, rfl⟩ := xcc_.cells5
  replace xcc_ := hid xcc_.now_free
  have N := hid N0
  clear N0
  replace D := hid (D.out.step N.out)
  replace r1 := hid ((N.out.block _ (lt_of_block r1.out)).trans r1.out)
  replace r2 := hid ((N.out.block _ (lt_of_block r2.out)).trans r2.out)
  replace xb := hid (xb.out.later N.out)
  replace xk := hid (xk.out.later N.out)
  have xcc := xcc_
  clear xcc_
  clear N
  clear xk
  go_upto_region 4 with fail
  obtain ⟨w8, hw_⟩ : ∃ x, x = w7.alloc (.cells #[.int .i64 cck, .int .i64 ccn, .string cct, .slice cca ccl ccc, .slice ccf ccm ccg] 25) := ⟨_, rfl⟩
  have N : Hid (Below w7.heap.size w7 w8) := by show Below _ _ _; rw [hw_]; exact below_new _ _
  have r3_ : Hid (w8.heap[w7.heap.size]? = some (.cells #[.int .i64 cck, .int .i64 ccn, .string cct, .slice cca ccl ccc, .slice ccf ccm ccg] 25 (0, 0))) := by show _ = _; rw [hw_]; exact heap_alloc_new _ _
  rw [← hw_]
  clear hw_
  replace D := hid (D.out.step N.out)
  replace r1 := hid ((N.out.block _ (lt_of_block r1.out)).trans r1.out)
  replace r2 := hid ((N.out.block _ (lt_of_block r2.out)).trans r2.out)
  replace xb := hid (xb.out.later N.out)
  replace xcc := hid (xcc.out.later N.out)
  clear N
  have r3 := r3_
  clear r3_
  clear r3 xcc
  go_wp2_with fail
  refine (hk.out _).mono ?_
  rintro e w9 ⟨gk, hk_, rfl, N0, k_⟩
  have N := hid N0
  clear N0
  replace D := hid (D.out.step N.out)
  replace r1 := hid ((N.out.block _ (lt_of_block r1.out)).trans r1.out)
  replace r2 := hid ((N.out.block _ (lt_of_block r2.out)).trans r2.out)
  replace xb := hid (xb.out.later N.out)
  have xk := hid k_.now
  clear k_
  clear N
  go_wp2_with fail
  refine (hg2.out _ _ D.out xk.out).mono ?_
  rintro e w10 ⟨cs_, rfl, N0, xdd_⟩
  replace xdd_ : Rd w10 (Free _ _) (zeroP) cs_ := xdd_
  obtain ⟨ddk, ddn, ddt, dda, ddl, ddc, ddf, ddm, ddg, rfl⟩ := xdd_.cells5
  replace xdd_ := hid xdd_.now_free
  have N := hid N0
  clear N0
  replace D := hid (D.out.step N.out)
  replace r1 := hid ((N.out.block _ (lt_of_block r1.out)).trans r1.out)
  replace r2 := hid ((N.out.block _ (lt_of_block r2.out)).trans r2.out)
  replace xb := hid (xb.out.later N.out)
  replace xk := hid (xk.out.later N.out)
  have xdd := xdd_
  clear xdd_
  clear N
  clear xk
  go_upto_region 5 with fail
  obtain ⟨w11, hw_⟩ : ∃ x, x = w10.alloc (.cells #[.int .i64 ddk, .int .i64 ddn, .string ddt, .slice dda ddl ddc, .slice ddf ddm ddg] 25) := ⟨_, rfl⟩
  have N : Hid (Below w10.heap.size w10 w11) := by show Below _ _ _; rw [hw_]; exact below_new _ _
  have r5_ : Hid (w11.heap[w10.heap.size]? = some (.cells #[.int .i64 ddk, .int .i64 ddn, .string ddt, .slice dda ddl ddc, .slice ddf ddm ddg] 25 (0, 0))) := by show _ = _; rw [hw_]; exact heap_alloc_new _ _
  rw [← hw_]
  clear hw_
  replace D := hid (D.out.step N.out)
  replace r1 := hid ((N.out.block _ (lt_of_block r1.out)).trans r1.out)
  replace r2 := hid ((N.out.block _ (lt_of_block r2.out)).trans r2.out)
  replace xb := hid (xb.out.later N.out)
  replace xdd := hid (xdd.out.later N.out)
  clear N
  have r5 := r5_
  clear r5_
  clear r5 xdd
  go_wp2_with fail
  refine (hk.out _).mono ?_
  rintro e w12 ⟨gk, hk_, rfl, N0, k_⟩
  have N := hid N0
  clear N0
  replace D := hid (D.out.step N.out)
  replace r1 := hid ((N.out.block _ (lt_of_block r1.out)).trans r1.out)
  replace r2 := hid ((N.out.block _ (lt_of_block r2.out)).trans r2.out)
  replace xb := hid (xb.out.later N.out)
  have xk := hid k_.now
  clear k_
  clear N
  go_wp2_with fail
  refine (hi.out 7 _).mono ?_
  rintro e w13 ⟨rfl, N0⟩
  have N := hid N0
  clear N0
  replace D := hid (D.out.step N.out)
  replace r1 := hid ((N.out.block _ (lt_of_block r1.out)).trans r1.out)
  replace r2 := hid ((N.out.block _ (lt_of_block r2.out)).trans r2.out)
  replace xb := hid (xb.out.later N.out)
  replace xk := hid (xk.out.later N.out)
  clear N
  go_wp2_with fail
  refine (hs3.out _ _ _ D.out xk.out (rd_flat _ _ (k := 3) (n := 7) (s := ByteArray.empty) ⟨by decide, by decide⟩ ⟨by decide, by decide⟩ (by decide))).mono ?_
  rintro e w14 ⟨cs_, rfl, N0, xee_⟩
  replace xee_ : Rd w14 (Free _ _) (kD) cs_ := xee_
  obtain ⟨eek, een, eet, eea, eel, eec, eef, eem, eeg, rfl⟩ := xee_.cells5
  replace xee_ := hid xee_.now_free
  have N := hid N0
  clear N0
  replace D := hid (D.out.step N.out)
  replace r1 := hid ((N.out.block _ (lt_of_block r1.out)).trans r1.out)
  replace r2 := hid ((N.out.block _ (lt_of_block r2.out)).trans r2.out)
  replace xb := hid (xb.out.later N.out)
  replace xk := hid (xk.out.later N.out)
  have xee := xee_
  clear xee_
  clear N
  clear xk
  go_upto_region 6 with fail
  obtain ⟨w15, hw_⟩ : ∃ x, x = w14.alloc (.cells #[.int .i64 eek, .int .i64 een, .string eet, .slice eea eel eec, .slice eef eem eeg] 25) := ⟨_, rfl⟩
  have N : Hid (Below w14.heap.size w14 w15) := by show Below _ _ _; rw [hw_]; exact below_new _ _
  have r7_ : Hid (w15.heap[w14.heap.size]? = some (.cells #[.int .i64 eek, .int .i64 een, .string eet, .slice eea eel eec, .slice eef eem eeg] 25 (0, 0))) := by show _ = _; rw [hw_]; exact heap_alloc_new _ _
  rw [← hw_]
  clear hw_
  replace D := hid (D.out.step N.out)
  replace r1 := hid ((N.out.block _ (lt_of_block r1.out)).trans r1.out)
  replace r2 := hid ((N.out.block _ (lt_of_block r2.out)).trans r2.out)
  replace xb := hid (xb.out.later N.out)
  replace xee := hid (xee.out.later N.out)
  clear N
  have r7 := r7_
  clear r7_
  have a7_0 := box_at (j := 0) r7.out rfl
  have a7_1 := box_at (j := 1) r7.out rfl
  have a7_2 := box_at (j := 2) r7.out rfl
  have a7_3 := box_at (j := 3) r7.out rfl
  have a7_4 := box_at (j := 4) r7.out rfl
  go_wp2_with fail
  refine (hg4.out _ _ D.out xee.out).mono ?_
  rintro e w16 ⟨cs_, rfl, N0, xff_⟩
  clear a7_0 a7_1 a7_2 a7_3 a7_4
  replace xff_ : Rd w16 (Free _ _) (kE) cs_ := xff_
  obtain ⟨ffk, ffn, fft, ffa, ffl, ffc, fff, ffm, ffg, rfl⟩ := xff_.cells5
  replace xff_ := hid xff_.now_free
  have N := hid N0
  clear N0
  replace D := hid (D.out.step N.out)
  replace r1 := hid ((N.out.block _ (lt_of_block r1.out)).trans r1.out)
  replace r2 := hid ((N.out.block _ (lt_of_block r2.out)).trans r2.out)
  replace r7 := hid ((N.out.block _ (lt_of_block r7.out)).trans r7.out)
  replace xb := hid (xb.out.later N.out)
  replace xee := hid (xee.out.later N.out)
  have xff := xff_
  clear xff_
  clear N
  go_upto_region 7 with fail
  obtain ⟨w17, hw_⟩ : ∃ x, x = w16.alloc (.cells #[.int .i64 ffk, .int .i64 ffn, .string fft, .slice ffa ffl ffc, .slice fff ffm ffg] 25) := ⟨_, rfl⟩
  have N : Hid (Below w16.heap.size w16 w17) := by show Below _ _ _; rw [hw_]; exact below_new _ _
  have r9_ : Hid (w17.heap[w16.heap.size]? = some (.cells #[.int .i64 ffk, .int .i64 ffn, .string fft, .slice ffa ffl ffc, .slice fff ffm ffg] 25 (0, 0))) := by show _ = _; rw [hw_]; exact heap_alloc_new _ _
  rw [← hw_]
  clear hw_
  replace D := hid (D.out.step N.out)
  replace r1 := hid ((N.out.block _ (lt_of_block r1.out)).trans r1.out)
  replace r2 := hid ((N.out.block _ (lt_of_block r2.out)).trans r2.out)
  replace r7 := hid ((N.out.block _ (lt_of_block r7.out)).trans r7.out)
  replace xb := hid (xb.out.later N.out)
  replace xee := hid (xee.out.later N.out)
  replace xff := hid (xff.out.later N.out)
  clear N
  have r9 := r9_
  clear r9_
  clear r7 xee
  go_wp2_with fail
  refine (hk.out _).mono ?_
  rintro e w18 ⟨gk, hk_, rfl, N0, k_⟩
  have N := hid N0
  clear N0
  replace D := hid (D.out.step N.out)
  replace r1 := hid ((N.out.block _ (lt_of_block r1.out)).trans r1.out)
  replace r2 := hid ((N.out.block _ (lt_of_block r2.out)).trans r2.out)
  replace r9 := hid ((N.out.block _ (lt_of_block r9.out)).trans r9.out)
  replace xb := hid (xb.out.later N.out)
  replace xff := hid (xff.out.later N.out)
  have xk := hid k_.now
  clear k_
  clear N
  go_wp2_with fail
  refine (hn.out _).mono ?_
  rintro e w19 ⟨rfl, N0⟩
  have N := hid N0
  clear N0
  replace D := hid (D.out.step N.out)
  replace r1 := hid ((N.out.block _ (lt_of_block r1.out)).trans r1.out)
  replace r2 := hid ((N.out.block _ (lt_of_block r2.out)).trans r2.out)
  replace r9 := hid ((N.out.block _ (lt_of_block r9.out)).trans r9.out)
  replace xb := hid (xb.out.later N.out)
  replace xff := hid (xff.out.later N.out)
  replace xk := hid (xk.out.later N.out)
  clear N
  go_wp2_with fail
  refine (hs5.out _ _ _ D.out xk.out (rd_flat _ _ (k := 1) (n := 0) (s := ByteArray.empty) ⟨by decide, by decide⟩ ⟨by decide, by decide⟩ (by decide))).mono ?_
  rintro e w20 ⟨cs_, rfl, N0, xhh_⟩
  replace xhh_ : Rd w20 (Free _ _) (kA (listV [kN, kB])) cs_ := xhh_
  obtain ⟨hhk, hhn, hht, hha, hhl, hhc, hhf, hhm, hhg, rfl⟩ := xhh_.cells5
  replace xhh_ := hid xhh_.now_free
  have N := hid N0
  clear N0
  replace D := hid (D.out.step N.out)
  replace r1 := hid ((N.out.block _ (lt_of_block r1.out)).trans r1.out)
  replace r2 := hid ((N.out.block _ (lt_of_block r2.out)).trans r2.out)
  replace r9 := hid ((N.out.block _ (lt_of_block r9.out)).trans r9.out)
  replace xb := hid (xb.out.later N.out)
  replace xff := hid (xff.out.later N.out)
  replace xk := hid (xk.out.later N.out)
  have xhh := xhh_
  clear xhh_
  clear N
  clear xk
  go_upto_region 8 with fail
  obtain ⟨w21, hw_⟩ : ∃ x, x = w20.alloc (.cells #[.int .i64 hhk, .int .i64 hhn, .string hht, .slice hha hhl hhc, .slice hhf hhm hhg] 25) := ⟨_, rfl⟩
  have N : Hid (Below w20.heap.size w20 w21) := by show Below _ _ _; rw [hw_]; exact below_new _ _
  have r11_ : Hid (w21.heap[w20.heap.size]? = some (.cells #[.int .i64 hhk, .int .i64 hhn, .string hht, .slice hha hhl hhc, .slice hhf hhm hhg] 25 (0, 0))) := by show _ = _; rw [hw_]; exact heap_alloc_new _ _
  rw [← hw_]
  clear hw_
  replace D := hid (D.out.step N.out)
  replace r1 := hid ((N.out.block _ (lt_of_block r1.out)).trans r1.out)
  replace r2 := hid ((N.out.block _ (lt_of_block r2.out)).trans r2.out)
  replace r9 := hid ((N.out.block _ (lt_of_block r9.out)).trans r9.out)
  replace xb := hid (xb.out.later N.out)
  replace xff := hid (xff.out.later N.out)
  replace xhh := hid (xhh.out.later N.out)
  clear N
  have r11 := r11_
  clear r11_
  have hSS8 : Hid (∀ x : World, (∀ b, b < w21.heap.size → x.heap[b]? = w21.heap[b]?) → BoxS w4.heap.size (.int .i64 3) (.int .i64 1) (.string ByteArray.empty) (.slice none 0 0) (.slice none 0 0) x) := fun x h => by
    have h2 := (h _ (lt_of_block r2.out)).trans r2.out
    exact ⟨box_at h2 rfl, box_at h2 rfl, box_at h2 rfl, box_at h2 rfl, box_at h2 rfl⟩
  go_cut [13, 14] from 57 to 62 (fun _ s14 wx => s14 = .int .i64 7 ∧ Below w21.heap.size w21 wx)
  case first =>
    refine wp_region_T (BoxS w4.heap.size (.int .i64 3) (.int .i64 1) (.string ByteArray.empty) (.slice none 0 0) (.slice none 0 0)) 9 (by kernel_rfl) ?_
    have hq0 := hSS8.out w21.drew (fun _ _ => rfl)
    ((refine wpAnyT_take (i := 1) (v := ?_) rfl (by kernel_rfl) (by kernel_rfl) (by kernel_rfl) (by kernel_rfl) (by exact fun _ _ _ h => h) (Or.inl ⟨by kernel_rfl, ?_⟩) hq0 ?_; rotate_left 1; focus (intro w hSw; unfold BoxS at hSw; (try dsimp only at hSw); go_simp; try with_reducible rfl); (try simp only [List.getElem_toArray, List.getElem_cons_zero, List.getElem_cons_succ, Act.put, List.setIfInBounds_toArray, List.set_cons_zero, List.set_cons_succ])))
    refine wpAnyT_two (i := 0) (j := 6) (by kernel_rfl) rfl rfl (fun K hK => ?_) (fun K hK => ?_)
    · go_simp
      refine (hk.out w21.drew).mono ?_
      rintro e wa ⟨gk, hk_, rfl, N0, k_⟩
      have E := hid ((Below.refl w21.heap.size w21).drew.step N0)
      have xk := hid k_.now
      clear k_ N0
      (refine hK.out _ _ (fun _ => hSS8.out wa E.out.block) (fun _ => ?_); clear hK K; (try simp only [Act.put, List.setIfInBounds_toArray, List.set_cons_zero, List.set_cons_succ]))
      refine wpAnyT_two (i := 2) (j := 6) (by kernel_rfl) rfl rfl (fun K hK => ?_) (fun K hK => ?_)
      · go_simp
        refine (hs6.out wa _ _ (D.out.step E.out) xk.out (rd_flat _ _ (k := 3) (n := 1) (s := ByteArray.empty) ⟨by decide, by decide⟩ ⟨by decide, by decide⟩ (by decide))).mono ?_
        rintro e wb ⟨cs_, rfl, N0, xz⟩
        obtain ⟨zk, zn, zt, za, zl, zc, zf, zm, zg, rfl⟩ := xz.cells5
        have E2 := hid (E.out.step N0)
        have hqb := hSS8.out wb E2.out.block
        clear xz N0
        (refine hK.out _ _ (fun _ => hqb) (fun _ => ?_); clear hK K; (try simp only [Act.put, List.setIfInBounds_toArray, List.set_cons_zero, List.set_cons_succ]))
        ((refine wpAnyT_take (i := 3) (v := ?_) rfl (by kernel_rfl) (by kernel_rfl) (by kernel_rfl) (by kernel_rfl) (by exact fun _ _ _ h => h) (Or.inl ⟨by kernel_rfl, ?_⟩) hqb ?_; rotate_left 1; focus (intro w hSw; unfold BoxS at hSw; (try dsimp only at hSw); go_simp; try with_reducible rfl); (try simp only [List.getElem_toArray, List.getElem_cons_zero, List.getElem_cons_succ, Act.put, List.setIfInBounds_toArray, List.set_cons_zero, List.set_cons_succ])); (refine wpAnyT_take (i := 4) (v := ?_) rfl (by kernel_rfl) (by kernel_rfl) (by kernel_rfl) (by kernel_rfl) (by exact fun _ _ _ h => h) (Or.inl ⟨by kernel_rfl, ?_⟩) hqb ?_; rotate_left 1; focus (intro w hSw; unfold BoxS at hSw; (try dsimp only at hSw); go_simp; try with_reducible rfl); (try simp only [List.getElem_toArray, List.getElem_cons_zero, List.getElem_cons_succ, Act.put, List.setIfInBounds_toArray, List.set_cons_zero, List.set_cons_succ])); (refine wpAnyT_take (i := 5) (v := ?_) rfl (by kernel_rfl) (by kernel_rfl) (by kernel_rfl) (by kernel_rfl) (by exact fun _ _ _ h => h) (Or.inl ⟨by kernel_rfl, ?_⟩) hqb ?_; rotate_left 1; focus (intro w hSw; unfold BoxS at hSw; (try dsimp only at hSw); go_simp; try with_reducible rfl); (try simp only [List.getElem_toArray, List.getElem_cons_zero, List.getElem_cons_succ, Act.put, List.setIfInBounds_toArray, List.set_cons_zero, List.set_cons_succ])))
        refine wpAnyT_one (i := 6) (by kernel_rfl) rfl (fun K hK => ?_)
        go_simp
        (refine hK.out _ _ (fun _ => hSS8.out _ (E2.out.step (below_new wb (.cells #[.int .i64 0, .int .i64 0, .string ⟨#[]⟩, .slice none 0 0, .slice none 0 0] 25))).block) (fun _ => ?_); clear hK K; (try simp only [Act.put, List.setIfInBounds_toArray, List.set_cons_zero, List.set_cons_succ]))
        have hqc := hSS8.out _ (E2.out.step (below_new wb (.cells #[.int .i64 zk, .int .i64 zn, .string zt, .slice za zl zc, .slice zf zm zg] 25))).block
        refine wpAnyT_one (i := 7) (by kernel_rfl) rfl (fun K hK => ?_)
        go_simp
        (refine hK.out _ _ (fun _ => hqc) (fun _ => ?_); clear hK K; (try simp only [Act.put, List.setIfInBounds_toArray, List.set_cons_zero, List.set_cons_succ]))
        refine wpAnyT_one (i := 8) (by kernel_rfl) rfl (fun K hK => ?_)
        go_simp
        (refine hK.out _ _ (fun _ => hqc) (fun _ => ?_); clear hK K; (try simp only [Act.put, List.setIfInBounds_toArray, List.set_cons_zero, List.set_cons_succ]))
        refine wpAnyT_done (by kernel_rfl) ?_ _
        go_wp2_with fail
        go_meet
        exact ⟨rfl, E2.out.step (below_new wb (.cells #[.int .i64 zk, .int .i64 zn, .string zt, .slice za zl zc, .slice zf zm zg] 25))⟩
      · go_simp
        obtain ⟨wg, hwg⟩ : ∃ wg, wg = wa.alloc (.cells #[.int .i64 0, .int .i64 0, .string ⟨#[]⟩, .slice none 0 0, .slice none 0 0] 25) := ⟨_, rfl⟩
        have E1 : Hid (Below wa.heap.size wa wg) := by show Below _ _ _; rw [hwg]; exact below_new _ _
        have gz : Hid (wg.heap[wa.heap.size]? = some (.cells #[.int .i64 0, .int .i64 0, .string ⟨#[]⟩, .slice none 0 0, .slice none 0 0] 25 (0, 0))) := by show _ = _; rw [hwg]; exact heap_alloc_new _ _
        rw [← hwg]
        clear hwg
        have E3 := hid (E.out.step E1.out)
        (refine hK.out _ _ (fun _ => hSS8.out wg E3.out.block) (fun _ => ?_); clear hK K; (try simp only [Act.put, List.setIfInBounds_toArray, List.set_cons_zero, List.set_cons_succ]))
        refine wpAnyT_one (i := 2) (by kernel_rfl) rfl (fun K hK => ?_)
        go_simp
        refine (hs6.out wg _ _ (D.out.step E3.out) (xk.out.later E1.out) (rd_flat _ _ (k := 3) (n := 1) (s := ByteArray.empty) ⟨by decide, by decide⟩ ⟨by decide, by decide⟩ (by decide))).mono ?_
        rintro e wb ⟨cs_, rfl, N0, xz⟩
        obtain ⟨zk, zn, zt, za, zl, zc, zf, zm, zg, rfl⟩ := xz.cells5
        have E2 := hid (E3.out.step N0)
        have g4 := hid ((N0.block _ (lt_of_block gz.out)).trans gz.out)
        have hqb := hSS8.out wb E2.out.block
        clear xz N0
        (refine hK.out _ _ (fun _ => hqb) (fun _ => ?_); clear hK K; (try simp only [Act.put, List.setIfInBounds_toArray, List.set_cons_zero, List.set_cons_succ]))
        ((refine wpAnyT_take (i := 3) (v := ?_) rfl (by kernel_rfl) (by kernel_rfl) (by kernel_rfl) (by kernel_rfl) (by exact fun _ _ _ h => h) (Or.inl ⟨by kernel_rfl, ?_⟩) hqb ?_; rotate_left 1; focus (intro w hSw; unfold BoxS at hSw; (try dsimp only at hSw); go_simp; try with_reducible rfl); (try simp only [List.getElem_toArray, List.getElem_cons_zero, List.getElem_cons_succ, Act.put, List.setIfInBounds_toArray, List.set_cons_zero, List.set_cons_succ])); (refine wpAnyT_take (i := 4) (v := ?_) rfl (by kernel_rfl) (by kernel_rfl) (by kernel_rfl) (by kernel_rfl) (by exact fun _ _ _ h => h) (Or.inl ⟨by kernel_rfl, ?_⟩) hqb ?_; rotate_left 1; focus (intro w hSw; unfold BoxS at hSw; (try dsimp only at hSw); go_simp; try with_reducible rfl); (try simp only [List.getElem_toArray, List.getElem_cons_zero, List.getElem_cons_succ, Act.put, List.setIfInBounds_toArray, List.set_cons_zero, List.set_cons_succ])); (refine wpAnyT_take (i := 5) (v := ?_) rfl (by kernel_rfl) (by kernel_rfl) (by kernel_rfl) (by kernel_rfl) (by exact fun _ _ _ h => h) (Or.inl ⟨by kernel_rfl, ?_⟩) hqb ?_; rotate_left 1; focus (intro w hSw; unfold BoxS at hSw; (try dsimp only at hSw); go_simp; try with_reducible rfl); (try simp only [List.getElem_toArray, List.getElem_cons_zero, List.getElem_cons_succ, Act.put, List.setIfInBounds_toArray, List.set_cons_zero, List.set_cons_succ])))
        have c0 := box_at (j := 0) g4.out rfl
        have c1 := box_at (j := 1) g4.out rfl
        have c2 := box_at (j := 2) g4.out rfl
        have c3 := box_at (j := 3) g4.out rfl
        have c4 := box_at (j := 4) g4.out rfl
        have f0 := box_free g4.out
        refine wpAnyT_one (i := 7) (by kernel_rfl) rfl (fun K hK => ?_)
        go_simp
        clear c0 c1 c2 c3 c4
        clear f0
        have hbz := hid (set5_below E2.out E.out.size (.int .i64 zk) (.int .i64 zn) (.string zt) (.slice za zl zc) (.slice zf zm zg))
        have rz := hid (set5_box (u0 := .int .i64 zk) (u1 := .int .i64 zn) (u2 := .string zt) (u3 := .slice za zl zc) (u4 := .slice zf zm zg) g4.out)
        have hkp := hid (fun b (hb : b ≠ wa.heap.size) => set5_other wb (wa.heap.size) (.int .i64 zk) (.int .i64 zn) (.string zt) (.slice za zl zc) (.slice zf zm zg) (b := b) hb)
        have hsz9 := hid (set5_size wb (wa.heap.size) (.int .i64 zk) (.int .i64 zn) (.string zt) (.slice za zl zc) (.slice zf zm zg))
        unfold set5 at hbz rz hkp hsz9
        generalize ((((wb.setCell ⟨wa.heap.size, 0, none⟩ (.int .i64 zk)).setCell ⟨wa.heap.size, 1, none⟩ (.int .i64 zn)).setCell ⟨wa.heap.size, 2, none⟩ (.string zt)).setCell ⟨wa.heap.size, 3, none⟩ (.slice za zl zc)).setCell ⟨wa.heap.size, 4, none⟩ (.slice zf zm zg) = w9 at *
        have hqd := hSS8.out _ hbz.out.block
        (refine hK.out _ _ (fun _ => hqd) (fun _ => ?_); clear hK K; (try simp only [Act.put, List.setIfInBounds_toArray, List.set_cons_zero, List.set_cons_succ]))
        refine wpAnyT_one (i := 8) (by kernel_rfl) rfl (fun K hK => ?_)
        go_simp
        (refine hK.out _ _ (fun _ => hqd) (fun _ => ?_); clear hK K; (try simp only [Act.put, List.setIfInBounds_toArray, List.set_cons_zero, List.set_cons_succ]))
        refine wpAnyT_done (by kernel_rfl) ?_ _
        go_wp2_with fail
        go_meet
        exact ⟨rfl, hbz.out⟩
    · go_simp
      obtain ⟨wg, hwg⟩ : ∃ wg, wg = w21.alloc (.cells #[.int .i64 0, .int .i64 0, .string ⟨#[]⟩, .slice none 0 0, .slice none 0 0] 25) := ⟨_, rfl⟩
      have E1 : Hid (Below w21.heap.size w21 wg) := by show Below _ _ _; rw [hwg]; exact below_new _ _
      have gz : Hid (wg.heap[w21.heap.size]? = some (.cells #[.int .i64 0, .int .i64 0, .string ⟨#[]⟩, .slice none 0 0, .slice none 0 0] 25 (0, 0))) := by show _ = _; rw [hwg]; exact heap_alloc_new _ _
      rw [← hwg]
      clear hwg
      (refine hK.out _ _ (fun _ => hSS8.out wg.drew E1.out.block) (fun _ => ?_); clear hK K; (try simp only [Act.put, List.setIfInBounds_toArray, List.set_cons_zero, List.set_cons_succ]))
      refine wpAnyT_one (i := 0) (by kernel_rfl) rfl (fun K hK => ?_)
      go_simp
      refine (hk.out wg.drew).mono ?_
      rintro e wa ⟨gk, hk_, rfl, N0, k_⟩
      have E := hid (E1.out.step ((Below.refl wg.heap.size wg).drew.step N0))
      have g3 := hid ((((Below.refl wg.heap.size wg).drew.step N0).block _ (lt_of_block gz.out)).trans gz.out)
      have xk := hid k_.now
      clear k_ N0
      (refine hK.out _ _ (fun _ => hSS8.out wa E.out.block) (fun _ => ?_); clear hK K; (try simp only [Act.put, List.setIfInBounds_toArray, List.set_cons_zero, List.set_cons_succ]))
      refine wpAnyT_one (i := 2) (by kernel_rfl) rfl (fun K hK => ?_)
      go_simp
      refine (hs6.out wa _ _ (D.out.step E.out) xk.out (rd_flat _ _ (k := 3) (n := 1) (s := ByteArray.empty) ⟨by decide, by decide⟩ ⟨by decide, by decide⟩ (by decide))).mono ?_
      rintro e wb ⟨cs_, rfl, N0, xz⟩
      obtain ⟨zk, zn, zt, za, zl, zc, zf, zm, zg, rfl⟩ := xz.cells5
      have E2 := hid (E.out.step N0)
      have g4 := hid ((N0.block _ (lt_of_block g3.out)).trans g3.out)
      have hqb := hSS8.out wb E2.out.block
      clear xz N0
      (refine hK.out _ _ (fun _ => hqb) (fun _ => ?_); clear hK K; (try simp only [Act.put, List.setIfInBounds_toArray, List.set_cons_zero, List.set_cons_succ]))
      ((refine wpAnyT_take (i := 3) (v := ?_) rfl (by kernel_rfl) (by kernel_rfl) (by kernel_rfl) (by kernel_rfl) (by exact fun _ _ _ h => h) (Or.inl ⟨by kernel_rfl, ?_⟩) hqb ?_; rotate_left 1; focus (intro w hSw; unfold BoxS at hSw; (try dsimp only at hSw); go_simp; try with_reducible rfl); (try simp only [List.getElem_toArray, List.getElem_cons_zero, List.getElem_cons_succ, Act.put, List.setIfInBounds_toArray, List.set_cons_zero, List.set_cons_succ])); (refine wpAnyT_take (i := 4) (v := ?_) rfl (by kernel_rfl) (by kernel_rfl) (by kernel_rfl) (by kernel_rfl) (by exact fun _ _ _ h => h) (Or.inl ⟨by kernel_rfl, ?_⟩) hqb ?_; rotate_left 1; focus (intro w hSw; unfold BoxS at hSw; (try dsimp only at hSw); go_simp; try with_reducible rfl); (try simp only [List.getElem_toArray, List.getElem_cons_zero, List.getElem_cons_succ, Act.put, List.setIfInBounds_toArray, List.set_cons_zero, List.set_cons_succ])); (refine wpAnyT_take (i := 5) (v := ?_) rfl (by kernel_rfl) (by kernel_rfl) (by kernel_rfl) (by kernel_rfl) (by exact fun _ _ _ h => h) (Or.inl ⟨by kernel_rfl, ?_⟩) hqb ?_; rotate_left 1; focus (intro w hSw; unfold BoxS at hSw; (try dsimp only at hSw); go_simp; try with_reducible rfl); (try simp only [List.getElem_toArray, List.getElem_cons_zero, List.getElem_cons_succ, Act.put, List.setIfInBounds_toArray, List.set_cons_zero, List.set_cons_succ])))
      have c0 := box_at (j := 0) g4.out rfl
      have c1 := box_at (j := 1) g4.out rfl
      have c2 := box_at (j := 2) g4.out rfl
      have c3 := box_at (j := 3) g4.out rfl
      have c4 := box_at (j := 4) g4.out rfl
      have f0 := box_free g4.out
      refine wpAnyT_one (i := 7) (by kernel_rfl) rfl (fun K hK => ?_)
      go_simp
      clear c0 c1 c2 c3 c4
      clear f0
      have hbz := hid (set5_below E2.out (Nat.le_refl _) (.int .i64 zk) (.int .i64 zn) (.string zt) (.slice za zl zc) (.slice zf zm zg))
      have rz := hid (set5_box (u0 := .int .i64 zk) (u1 := .int .i64 zn) (u2 := .string zt) (u3 := .slice za zl zc) (u4 := .slice zf zm zg) g4.out)
      have hkp := hid (fun b (hb : b ≠ w21.heap.size) => set5_other wb (w21.heap.size) (.int .i64 zk) (.int .i64 zn) (.string zt) (.slice za zl zc) (.slice zf zm zg) (b := b) hb)
      have hsz9 := hid (set5_size wb (w21.heap.size) (.int .i64 zk) (.int .i64 zn) (.string zt) (.slice za zl zc) (.slice zf zm zg))
      unfold set5 at hbz rz hkp hsz9
      generalize ((((wb.setCell ⟨w21.heap.size, 0, none⟩ (.int .i64 zk)).setCell ⟨w21.heap.size, 1, none⟩ (.int .i64 zn)).setCell ⟨w21.heap.size, 2, none⟩ (.string zt)).setCell ⟨w21.heap.size, 3, none⟩ (.slice za zl zc)).setCell ⟨w21.heap.size, 4, none⟩ (.slice zf zm zg) = w9 at *
      have hqd := hSS8.out _ hbz.out.block
      (refine hK.out _ _ (fun _ => hqd) (fun _ => ?_); clear hK K; (try simp only [Act.put, List.setIfInBounds_toArray, List.set_cons_zero, List.set_cons_succ]))
      refine wpAnyT_one (i := 8) (by kernel_rfl) rfl (fun K hK => ?_)
      go_simp
      (refine hK.out _ _ (fun _ => hqd) (fun _ => ?_); clear hK K; (try simp only [Act.put, List.setIfInBounds_toArray, List.set_cons_zero, List.set_cons_succ]))
      refine wpAnyT_done (by kernel_rfl) ?_ _
      go_wp2_with fail
      go_meet
      exact ⟨rfl, hbz.out⟩
  case rest =>
    obtain ⟨rfl, hE⟩ := hcut
    have N := hid hE
    clear hE hSS8
    replace D := hid (D.out.step N.out)
    replace r1 := hid ((N.out.block _ (lt_of_block r1.out)).trans r1.out)
    replace r2 := hid ((N.out.block _ (lt_of_block r2.out)).trans r2.out)
    replace r9 := hid ((N.out.block _ (lt_of_block r9.out)).trans r9.out)
    replace r11 := hid ((N.out.block _ (lt_of_block r11.out)).trans r11.out)
    replace xb := hid (xb.out.later N.out)
    replace xff := hid (xff.out.later N.out)
    replace xhh := hid (xhh.out.later N.out)
    clear N
    go_upto_region 9 with fail
    have hSS9 : Hid (∀ x : World, (∀ b, b < wc.heap.size → x.heap[b]? = wc.heap[b]?) → BoxS w4.heap.size (.int .i64 3) (.int .i64 1) (.string ByteArray.empty) (.slice none 0 0) (.slice none 0 0) x) := fun x h => by
      have h2 := (h _ (lt_of_block r2.out)).trans r2.out
      exact ⟨box_at h2 rfl, box_at h2 rfl, box_at h2 rfl, box_at h2 rfl, box_at h2 rfl⟩
    go_cut [15, 16] from 63 to 68 (fun _ s16 wx => s16 = .int .i64 8 ∧ Below wc.heap.size wc wx)
    case first =>
      refine wp_region_T (BoxS w4.heap.size (.int .i64 3) (.int .i64 1) (.string ByteArray.empty) (.slice none 0 0) (.slice none 0 0)) 9 (by kernel_rfl) ?_
      have hq0 := hSS9.out wc.drew (fun _ _ => rfl)
      ((refine wpAnyT_take (i := 1) (v := ?_) rfl (by kernel_rfl) (by kernel_rfl) (by kernel_rfl) (by kernel_rfl) (by exact fun _ _ _ h => h) (Or.inl ⟨by kernel_rfl, ?_⟩) hq0 ?_; rotate_left 1; focus (intro w hSw; unfold BoxS at hSw; (try dsimp only at hSw); go_simp; try with_reducible rfl); (try simp only [List.getElem_toArray, List.getElem_cons_zero, List.getElem_cons_succ, Act.put, List.setIfInBounds_toArray, List.set_cons_zero, List.set_cons_succ])))
      refine wpAnyT_two (i := 0) (j := 6) (by kernel_rfl) rfl rfl (fun K hK => ?_) (fun K hK => ?_)
      · go_simp
        refine (hk.out wc.drew).mono ?_
        rintro e wa ⟨gk, hk_, rfl, N0, k_⟩
        have E := hid ((Below.refl wc.heap.size wc).drew.step N0)
        have xk := hid k_.now
        clear k_ N0
        (refine hK.out _ _ (fun _ => hSS9.out wa E.out.block) (fun _ => ?_); clear hK K; (try simp only [Act.put, List.setIfInBounds_toArray, List.set_cons_zero, List.set_cons_succ]))
        refine wpAnyT_two (i := 2) (j := 6) (by kernel_rfl) rfl rfl (fun K hK => ?_) (fun K hK => ?_)
        · go_simp
          refine (hs7.out wa _ _ (D.out.step E.out) xk.out (rd_flat _ _ (k := 3) (n := 1) (s := ByteArray.empty) ⟨by decide, by decide⟩ ⟨by decide, by decide⟩ (by decide))).mono ?_
          rintro e wb ⟨cs_, rfl, N0, xz⟩
          obtain ⟨zk, zn, zt, za, zl, zc, zf, zm, zg, rfl⟩ := xz.cells5
          have E2 := hid (E.out.step N0)
          have hqb := hSS9.out wb E2.out.block
          clear xz N0
          (refine hK.out _ _ (fun _ => hqb) (fun _ => ?_); clear hK K; (try simp only [Act.put, List.setIfInBounds_toArray, List.set_cons_zero, List.set_cons_succ]))
          ((refine wpAnyT_take (i := 3) (v := ?_) rfl (by kernel_rfl) (by kernel_rfl) (by kernel_rfl) (by kernel_rfl) (by exact fun _ _ _ h => h) (Or.inl ⟨by kernel_rfl, ?_⟩) hqb ?_; rotate_left 1; focus (intro w hSw; unfold BoxS at hSw; (try dsimp only at hSw); go_simp; try with_reducible rfl); (try simp only [List.getElem_toArray, List.getElem_cons_zero, List.getElem_cons_succ, Act.put, List.setIfInBounds_toArray, List.set_cons_zero, List.set_cons_succ])); (refine wpAnyT_take (i := 4) (v := ?_) rfl (by kernel_rfl) (by kernel_rfl) (by kernel_rfl) (by kernel_rfl) (by exact fun _ _ _ h => h) (Or.inl ⟨by kernel_rfl, ?_⟩) hqb ?_; rotate_left 1; focus (intro w hSw; unfold BoxS at hSw; (try dsimp only at hSw); go_simp; try with_reducible rfl); (try simp only [List.getElem_toArray, List.getElem_cons_zero, List.getElem_cons_succ, Act.put, List.setIfInBounds_toArray, List.set_cons_zero, List.set_cons_succ])); (refine wpAnyT_take (i := 5) (v := ?_) rfl (by kernel_rfl) (by kernel_rfl) (by kernel_rfl) (by kernel_rfl) (by exact fun _ _ _ h => h) (Or.inl ⟨by kernel_rfl, ?_⟩) hqb ?_; rotate_left 1; focus (intro w hSw; unfold BoxS at hSw; (try dsimp only at hSw); go_simp; try with_reducible rfl); (try simp only [List.getElem_toArray, List.getElem_cons_zero, List.getElem_cons_succ, Act.put, List.setIfInBounds_toArray, List.set_cons_zero, List.set_cons_succ])))
          refine wpAnyT_one (i := 6) (by kernel_rfl) rfl (fun K hK => ?_)
          go_simp
          (refine hK.out _ _ (fun _ => hSS9.out _ (E2.out.step (below_new wb (.cells #[.int .i64 0, .int .i64 0, .string ⟨#[]⟩, .slice none 0 0, .slice none 0 0] 25))).block) (fun _ => ?_); clear hK K; (try simp only [Act.put, List.setIfInBounds_toArray, List.set_cons_zero, List.set_cons_succ]))
          have hqc := hSS9.out _ (E2.out.step (below_new wb (.cells #[.int .i64 zk, .int .i64 zn, .string zt, .slice za zl zc, .slice zf zm zg] 25))).block
          refine wpAnyT_one (i := 7) (by kernel_rfl) rfl (fun K hK => ?_)
          go_simp
          (refine hK.out _ _ (fun _ => hqc) (fun _ => ?_); clear hK K; (try simp only [Act.put, List.setIfInBounds_toArray, List.set_cons_zero, List.set_cons_succ]))
          refine wpAnyT_one (i := 8) (by kernel_rfl) rfl (fun K hK => ?_)
          go_simp
          (refine hK.out _ _ (fun _ => hqc) (fun _ => ?_); clear hK K; (try simp only [Act.put, List.setIfInBounds_toArray, List.set_cons_zero, List.set_cons_succ]))
          refine wpAnyT_done (by kernel_rfl) ?_ _
          go_wp2_with fail
          go_meet
          exact ⟨rfl, E2.out.step (below_new wb (.cells #[.int .i64 zk, .int .i64 zn, .string zt, .slice za zl zc, .slice zf zm zg] 25))⟩
        · go_simp
          obtain ⟨wg, hwg⟩ : ∃ wg, wg = wa.alloc (.cells #[.int .i64 0, .int .i64 0, .string ⟨#[]⟩, .slice none 0 0, .slice none 0 0] 25) := ⟨_, rfl⟩
          have E1 : Hid (Below wa.heap.size wa wg) := by show Below _ _ _; rw [hwg]; exact below_new _ _
          have gz : Hid (wg.heap[wa.heap.size]? = some (.cells #[.int .i64 0, .int .i64 0, .string ⟨#[]⟩, .slice none 0 0, .slice none 0 0] 25 (0, 0))) := by show _ = _; rw [hwg]; exact heap_alloc_new _ _
          rw [← hwg]
          clear hwg
          have E3 := hid (E.out.step E1.out)
          (refine hK.out _ _ (fun _ => hSS9.out wg E3.out.block) (fun _ => ?_); clear hK K; (try simp only [Act.put, List.setIfInBounds_toArray, List.set_cons_zero, List.set_cons_succ]))
          refine wpAnyT_one (i := 2) (by kernel_rfl) rfl (fun K hK => ?_)
          go_simp
          refine (hs7.out wg _ _ (D.out.step E3.out) (xk.out.later E1.out) (rd_flat _ _ (k := 3) (n := 1) (s := ByteArray.empty) ⟨by decide, by decide⟩ ⟨by decide, by decide⟩ (by decide))).mono ?_
          rintro e wb ⟨cs_, rfl, N0, xz⟩
          obtain ⟨zk, zn, zt, za, zl, zc, zf, zm, zg, rfl⟩ := xz.cells5
          have E2 := hid (E3.out.step N0)
          have g4 := hid ((N0.block _ (lt_of_block gz.out)).trans gz.out)
          have hqb := hSS9.out wb E2.out.block
          clear xz N0
          (refine hK.out _ _ (fun _ => hqb) (fun _ => ?_); clear hK K; (try simp only [Act.put, List.setIfInBounds_toArray, List.set_cons_zero, List.set_cons_succ]))
          ((refine wpAnyT_take (i := 3) (v := ?_) rfl (by kernel_rfl) (by kernel_rfl) (by kernel_rfl) (by kernel_rfl) (by exact fun _ _ _ h => h) (Or.inl ⟨by kernel_rfl, ?_⟩) hqb ?_; rotate_left 1; focus (intro w hSw; unfold BoxS at hSw; (try dsimp only at hSw); go_simp; try with_reducible rfl); (try simp only [List.getElem_toArray, List.getElem_cons_zero, List.getElem_cons_succ, Act.put, List.setIfInBounds_toArray, List.set_cons_zero, List.set_cons_succ])); (refine wpAnyT_take (i := 4) (v := ?_) rfl (by kernel_rfl) (by kernel_rfl) (by kernel_rfl) (by kernel_rfl) (by exact fun _ _ _ h => h) (Or.inl ⟨by kernel_rfl, ?_⟩) hqb ?_; rotate_left 1; focus (intro w hSw; unfold BoxS at hSw; (try dsimp only at hSw); go_simp; try with_reducible rfl); (try simp only [List.getElem_toArray, List.getElem_cons_zero, List.getElem_cons_succ, Act.put, List.setIfInBounds_toArray, List.set_cons_zero, List.set_cons_succ])); (refine wpAnyT_take (i := 5) (v := ?_) rfl (by kernel_rfl) (by kernel_rfl) (by kernel_rfl) (by kernel_rfl) (by exact fun _ _ _ h => h) (Or.inl ⟨by kernel_rfl, ?_⟩) hqb ?_; rotate_left 1; focus (intro w hSw; unfold BoxS at hSw; (try dsimp only at hSw); go_simp; try with_reducible rfl); (try simp only [List.getElem_toArray, List.getElem_cons_zero, List.getElem_cons_succ, Act.put, List.setIfInBounds_toArray, List.set_cons_zero, List.set_cons_succ])))
          have c0 := box_at (j := 0) g4.out rfl
          have c1 := box_at (j := 1) g4.out rfl
          have c2 := box_at (j := 2) g4.out rfl
          have c3 := box_at (j := 3) g4.out rfl
          have c4 := box_at (j := 4) g4.out rfl
          have f0 := box_free g4.out
          refine wpAnyT_one (i := 7) (by kernel_rfl) rfl (fun K hK => ?_)
          go_simp
          clear c0 c1 c2 c3 c4
          clear f0
          have hbz := hid (set5_below E2.out E.out.size (.int .i64 zk) (.int .i64 zn) (.string zt) (.slice za zl zc) (.slice zf zm zg))
          have rz := hid (set5_box (u0 := .int .i64 zk) (u1 := .int .i64 zn) (u2 := .string zt) (u3 := .slice za zl zc) (u4 := .slice zf zm zg) g4.out)
          have hkp := hid (fun b (hb : b ≠ wa.heap.size) => set5_other wb (wa.heap.size) (.int .i64 zk) (.int .i64 zn) (.string zt) (.slice za zl zc) (.slice zf zm zg) (b := b) hb)
          have hsz9 := hid (set5_size wb (wa.heap.size) (.int .i64 zk) (.int .i64 zn) (.string zt) (.slice za zl zc) (.slice zf zm zg))
          unfold set5 at hbz rz hkp hsz9
          generalize ((((wb.setCell ⟨wa.heap.size, 0, none⟩ (.int .i64 zk)).setCell ⟨wa.heap.size, 1, none⟩ (.int .i64 zn)).setCell ⟨wa.heap.size, 2, none⟩ (.string zt)).setCell ⟨wa.heap.size, 3, none⟩ (.slice za zl zc)).setCell ⟨wa.heap.size, 4, none⟩ (.slice zf zm zg) = w9 at *
          have hqd := hSS9.out _ hbz.out.block
          (refine hK.out _ _ (fun _ => hqd) (fun _ => ?_); clear hK K; (try simp only [Act.put, List.setIfInBounds_toArray, List.set_cons_zero, List.set_cons_succ]))
          refine wpAnyT_one (i := 8) (by kernel_rfl) rfl (fun K hK => ?_)
          go_simp
          (refine hK.out _ _ (fun _ => hqd) (fun _ => ?_); clear hK K; (try simp only [Act.put, List.setIfInBounds_toArray, List.set_cons_zero, List.set_cons_succ]))
          refine wpAnyT_done (by kernel_rfl) ?_ _
          go_wp2_with fail
          go_meet
          exact ⟨rfl, hbz.out⟩
      · go_simp
        obtain ⟨wg, hwg⟩ : ∃ wg, wg = wc.alloc (.cells #[.int .i64 0, .int .i64 0, .string ⟨#[]⟩, .slice none 0 0, .slice none 0 0] 25) := ⟨_, rfl⟩
        have E1 : Hid (Below wc.heap.size wc wg) := by show Below _ _ _; rw [hwg]; exact below_new _ _
        have gz : Hid (wg.heap[wc.heap.size]? = some (.cells #[.int .i64 0, .int .i64 0, .string ⟨#[]⟩, .slice none 0 0, .slice none 0 0] 25 (0, 0))) := by show _ = _; rw [hwg]; exact heap_alloc_new _ _
        rw [← hwg]
        clear hwg
        (refine hK.out _ _ (fun _ => hSS9.out wg.drew E1.out.block) (fun _ => ?_); clear hK K; (try simp only [Act.put, List.setIfInBounds_toArray, List.set_cons_zero, List.set_cons_succ]))
        refine wpAnyT_one (i := 0) (by kernel_rfl) rfl (fun K hK => ?_)
        go_simp
        refine (hk.out wg.drew).mono ?_
        rintro e wa ⟨gk, hk_, rfl, N0, k_⟩
        have E := hid (E1.out.step ((Below.refl wg.heap.size wg).drew.step N0))
        have g3 := hid ((((Below.refl wg.heap.size wg).drew.step N0).block _ (lt_of_block gz.out)).trans gz.out)
        have xk := hid k_.now
        clear k_ N0
        (refine hK.out _ _ (fun _ => hSS9.out wa E.out.block) (fun _ => ?_); clear hK K; (try simp only [Act.put, List.setIfInBounds_toArray, List.set_cons_zero, List.set_cons_succ]))
        refine wpAnyT_one (i := 2) (by kernel_rfl) rfl (fun K hK => ?_)
        go_simp
        refine (hs7.out wa _ _ (D.out.step E.out) xk.out (rd_flat _ _ (k := 3) (n := 1) (s := ByteArray.empty) ⟨by decide, by decide⟩ ⟨by decide, by decide⟩ (by decide))).mono ?_
        rintro e wb ⟨cs_, rfl, N0, xz⟩
        obtain ⟨zk, zn, zt, za, zl, zc, zf, zm, zg, rfl⟩ := xz.cells5
        have E2 := hid (E.out.step N0)
        have g4 := hid ((N0.block _ (lt_of_block g3.out)).trans g3.out)
        have hqb := hSS9.out wb E2.out.block
        clear xz N0
        (refine hK.out _ _ (fun _ => hqb) (fun _ => ?_); clear hK K; (try simp only [Act.put, List.setIfInBounds_toArray, List.set_cons_zero, List.set_cons_succ]))
        ((refine wpAnyT_take (i := 3) (v := ?_) rfl (by kernel_rfl) (by kernel_rfl) (by kernel_rfl) (by kernel_rfl) (by exact fun _ _ _ h => h) (Or.inl ⟨by kernel_rfl, ?_⟩) hqb ?_; rotate_left 1; focus (intro w hSw; unfold BoxS at hSw; (try dsimp only at hSw); go_simp; try with_reducible rfl); (try simp only [List.getElem_toArray, List.getElem_cons_zero, List.getElem_cons_succ, Act.put, List.setIfInBounds_toArray, List.set_cons_zero, List.set_cons_succ])); (refine wpAnyT_take (i := 4) (v := ?_) rfl (by kernel_rfl) (by kernel_rfl) (by kernel_rfl) (by kernel_rfl) (by exact fun _ _ _ h => h) (Or.inl ⟨by kernel_rfl, ?_⟩) hqb ?_; rotate_left 1; focus (intro w hSw; unfold BoxS at hSw; (try dsimp only at hSw); go_simp; try with_reducible rfl); (try simp only [List.getElem_toArray, List.getElem_cons_zero, List.getElem_cons_succ, Act.put, List.setIfInBounds_toArray, List.set_cons_zero, List.set_cons_succ])); (refine wpAnyT_take (i := 5) (v := ?_) rfl (by kernel_rfl) (by kernel_rfl) (by kernel_rfl) (by kernel_rfl) (by exact fun _ _ _ h => h) (Or.inl ⟨by kernel_rfl, ?_⟩) hqb ?_; rotate_left 1; focus (intro w hSw; unfold BoxS at hSw; (try dsimp only at hSw); go_simp; try with_reducible rfl); (try simp only [List.getElem_toArray, List.getElem_cons_zero, List.getElem_cons_succ, Act.put, List.setIfInBounds_toArray, List.set_cons_zero, List.set_cons_succ])))
        have c0 := box_at (j := 0) g4.out rfl
        have c1 := box_at (j := 1) g4.out rfl
        have c2 := box_at (j := 2) g4.out rfl
        have c3 := box_at (j := 3) g4.out rfl
        have c4 := box_at (j := 4) g4.out rfl
        have f0 := box_free g4.out
        refine wpAnyT_one (i := 7) (by kernel_rfl) rfl (fun K hK => ?_)
        go_simp
        clear c0 c1 c2 c3 c4
        clear f0
        have hbz := hid (set5_below E2.out (Nat.le_refl _) (.int .i64 zk) (.int .i64 zn) (.string zt) (.slice za zl zc) (.slice zf zm zg))
        have rz := hid (set5_box (u0 := .int .i64 zk) (u1 := .int .i64 zn) (u2 := .string zt) (u3 := .slice za zl zc) (u4 := .slice zf zm zg) g4.out)
        have hkp := hid (fun b (hb : b ≠ wc.heap.size) => set5_other wb (wc.heap.size) (.int .i64 zk) (.int .i64 zn) (.string zt) (.slice za zl zc) (.slice zf zm zg) (b := b) hb)
        have hsz9 := hid (set5_size wb (wc.heap.size) (.int .i64 zk) (.int .i64 zn) (.string zt) (.slice za zl zc) (.slice zf zm zg))
        unfold set5 at hbz rz hkp hsz9
        generalize ((((wb.setCell ⟨wc.heap.size, 0, none⟩ (.int .i64 zk)).setCell ⟨wc.heap.size, 1, none⟩ (.int .i64 zn)).setCell ⟨wc.heap.size, 2, none⟩ (.string zt)).setCell ⟨wc.heap.size, 3, none⟩ (.slice za zl zc)).setCell ⟨wc.heap.size, 4, none⟩ (.slice zf zm zg) = w9 at *
        have hqd := hSS9.out _ hbz.out.block
        (refine hK.out _ _ (fun _ => hqd) (fun _ => ?_); clear hK K; (try simp only [Act.put, List.setIfInBounds_toArray, List.set_cons_zero, List.set_cons_succ]))
        refine wpAnyT_one (i := 8) (by kernel_rfl) rfl (fun K hK => ?_)
        go_simp
        (refine hK.out _ _ (fun _ => hqd) (fun _ => ?_); clear hK K; (try simp only [Act.put, List.setIfInBounds_toArray, List.set_cons_zero, List.set_cons_succ]))
        refine wpAnyT_done (by kernel_rfl) ?_ _
        go_wp2_with fail
        go_meet
        exact ⟨rfl, hbz.out⟩
    case rest =>
      obtain ⟨rfl, hE⟩ := hcut
      have N := hid hE
      clear hE hSS9
      replace D := hid (D.out.step N.out)
      replace r1 := hid ((N.out.block _ (lt_of_block r1.out)).trans r1.out)
      replace r2 := hid ((N.out.block _ (lt_of_block r2.out)).trans r2.out)
      replace r9 := hid ((N.out.block _ (lt_of_block r9.out)).trans r9.out)
      replace r11 := hid ((N.out.block _ (lt_of_block r11.out)).trans r11.out)
      replace xb := hid (xb.out.later N.out)
      replace xff := hid (xff.out.later N.out)
      replace xhh := hid (xhh.out.later N.out)
      clear N
      go_wp2_with fail
      refine (hk.out _).mono ?_
      rintro e w22 ⟨gk, hk_, rfl, N0, k_⟩
      have N := hid N0
      clear N0
      replace D := hid (D.out.step N.out)
      replace r1 := hid ((N.out.block _ (lt_of_block r1.out)).trans r1.out)
      replace r2 := hid ((N.out.block _ (lt_of_block r2.out)).trans r2.out)
      replace r9 := hid ((N.out.block _ (lt_of_block r9.out)).trans r9.out)
      replace r11 := hid ((N.out.block _ (lt_of_block r11.out)).trans r11.out)
      replace xb := hid (xb.out.later N.out)
      replace xff := hid (xff.out.later N.out)
      replace xhh := hid (xhh.out.later N.out)
      have xk := hid k_.now
      clear k_
      clear N
      go_wp2_with fail
      refine (hu8.out _ _ D.out xk.out).mono ?_
      rintro e w23 ⟨cs_, rfl, N0, xm8_⟩
      replace xm8_ : Rd w23 (Free _ _) (kA (listV [kB])) cs_ := xm8_
      obtain ⟨m8k, m8n, m8t, m8a, m8l, m8c, m8f, m8m, m8g, rfl⟩ := xm8_.cells5
      replace xm8_ := hid xm8_.now_free
      have N := hid N0
      clear N0
      replace D := hid (D.out.step N.out)
      replace r1 := hid ((N.out.block _ (lt_of_block r1.out)).trans r1.out)
      replace r2 := hid ((N.out.block _ (lt_of_block r2.out)).trans r2.out)
      replace r9 := hid ((N.out.block _ (lt_of_block r9.out)).trans r9.out)
      replace r11 := hid ((N.out.block _ (lt_of_block r11.out)).trans r11.out)
      replace xb := hid (xb.out.later N.out)
      replace xff := hid (xff.out.later N.out)
      replace xhh := hid (xhh.out.later N.out)
      replace xk := hid (xk.out.later N.out)
      have xm8 := xm8_
      clear xm8_
      clear N
      clear xk
      go_upto_region 11 with fail
      obtain ⟨w24, hw_⟩ : ∃ x, x = w23.alloc (.cells #[.int .i64 m8k, .int .i64 m8n, .string m8t, .slice m8a m8l m8c, .slice m8f m8m m8g] 25) := ⟨_, rfl⟩
      have N : Hid (Below w23.heap.size w23 w24) := by show Below _ _ _; rw [hw_]; exact below_new _ _
      have r17_ : Hid (w24.heap[w23.heap.size]? = some (.cells #[.int .i64 m8k, .int .i64 m8n, .string m8t, .slice m8a m8l m8c, .slice m8f m8m m8g] 25 (0, 0))) := by show _ = _; rw [hw_]; exact heap_alloc_new _ _
      rw [← hw_]
      clear hw_
      replace D := hid (D.out.step N.out)
      replace r1 := hid ((N.out.block _ (lt_of_block r1.out)).trans r1.out)
      replace r2 := hid ((N.out.block _ (lt_of_block r2.out)).trans r2.out)
      replace r9 := hid ((N.out.block _ (lt_of_block r9.out)).trans r9.out)
      replace r11 := hid ((N.out.block _ (lt_of_block r11.out)).trans r11.out)
      replace xb := hid (xb.out.later N.out)
      replace xff := hid (xff.out.later N.out)
      replace xhh := hid (xhh.out.later N.out)
      replace xm8 := hid (xm8.out.later N.out)
      clear N
      have r17 := r17_
      clear r17_
      go_wp2_with fail
      refine (hk.out _).mono ?_
      rintro e w25 ⟨gk, hk_, rfl, N0, k_⟩
      have N := hid N0
      clear N0
      replace D := hid (D.out.step N.out)
      replace r1 := hid ((N.out.block _ (lt_of_block r1.out)).trans r1.out)
      replace r2 := hid ((N.out.block _ (lt_of_block r2.out)).trans r2.out)
      replace r9 := hid ((N.out.block _ (lt_of_block r9.out)).trans r9.out)
      replace r11 := hid ((N.out.block _ (lt_of_block r11.out)).trans r11.out)
      replace r17 := hid ((N.out.block _ (lt_of_block r17.out)).trans r17.out)
      replace xb := hid (xb.out.later N.out)
      replace xff := hid (xff.out.later N.out)
      replace xhh := hid (xhh.out.later N.out)
      replace xm8 := hid (xm8.out.later N.out)
      have xk := hid k_.now
      clear k_
      clear N
      go_wp2_with fail
      refine (hu9.out _ _ D.out xk.out).mono ?_
      rintro e w26 ⟨cs_, rfl, N0, xm9_⟩
      replace xm9_ : Rd w26 (Free _ _) (knownV 2) cs_ := xm9_
      obtain ⟨m9k, m9n, m9t, m9a, m9l, m9c, m9f, m9m, m9g, rfl⟩ := xm9_.cells5
      replace xm9_ := hid xm9_.now_free
      have N := hid N0
      clear N0
      replace D := hid (D.out.step N.out)
      replace r1 := hid ((N.out.block _ (lt_of_block r1.out)).trans r1.out)
      replace r2 := hid ((N.out.block _ (lt_of_block r2.out)).trans r2.out)
      replace r9 := hid ((N.out.block _ (lt_of_block r9.out)).trans r9.out)
      replace r11 := hid ((N.out.block _ (lt_of_block r11.out)).trans r11.out)
      replace r17 := hid ((N.out.block _ (lt_of_block r17.out)).trans r17.out)
      replace xb := hid (xb.out.later N.out)
      replace xff := hid (xff.out.later N.out)
      replace xhh := hid (xhh.out.later N.out)
      replace xm8 := hid (xm8.out.later N.out)
      replace xk := hid (xk.out.later N.out)
      have xm9 := xm9_
      clear xm9_
      clear N
      clear xk
      go_upto_region 12 with fail
      obtain ⟨w27, hw_⟩ : ∃ x, x = w26.alloc (.cells #[.int .i64 m9k, .int .i64 m9n, .string m9t, .slice m9a m9l m9c, .slice m9f m9m m9g] 25) := ⟨_, rfl⟩
      have N : Hid (Below w26.heap.size w26 w27) := by show Below _ _ _; rw [hw_]; exact below_new _ _
      have r19_ : Hid (w27.heap[w26.heap.size]? = some (.cells #[.int .i64 m9k, .int .i64 m9n, .string m9t, .slice m9a m9l m9c, .slice m9f m9m m9g] 25 (0, 0))) := by show _ = _; rw [hw_]; exact heap_alloc_new _ _
      rw [← hw_]
      clear hw_
      replace D := hid (D.out.step N.out)
      replace r1 := hid ((N.out.block _ (lt_of_block r1.out)).trans r1.out)
      replace r2 := hid ((N.out.block _ (lt_of_block r2.out)).trans r2.out)
      replace r9 := hid ((N.out.block _ (lt_of_block r9.out)).trans r9.out)
      replace r11 := hid ((N.out.block _ (lt_of_block r11.out)).trans r11.out)
      replace r17 := hid ((N.out.block _ (lt_of_block r17.out)).trans r17.out)
      replace xb := hid (xb.out.later N.out)
      replace xff := hid (xff.out.later N.out)
      replace xhh := hid (xhh.out.later N.out)
      replace xm8 := hid (xm8.out.later N.out)
      replace xm9 := hid (xm9.out.later N.out)
      clear N
      have r19 := r19_
      clear r19_
      go_wp2_with fail
      refine (hk.out _).mono ?_
      rintro e w28 ⟨gk, hk_, rfl, N0, k_⟩
      have N := hid N0
      clear N0
      replace D := hid (D.out.step N.out)
      replace r1 := hid ((N.out.block _ (lt_of_block r1.out)).trans r1.out)
      replace r2 := hid ((N.out.block _ (lt_of_block r2.out)).trans r2.out)
      replace r9 := hid ((N.out.block _ (lt_of_block r9.out)).trans r9.out)
      replace r11 := hid ((N.out.block _ (lt_of_block r11.out)).trans r11.out)
      replace r17 := hid ((N.out.block _ (lt_of_block r17.out)).trans r17.out)
      replace r19 := hid ((N.out.block _ (lt_of_block r19.out)).trans r19.out)
      replace xb := hid (xb.out.later N.out)
      replace xff := hid (xff.out.later N.out)
      replace xhh := hid (xhh.out.later N.out)
      replace xm8 := hid (xm8.out.later N.out)
      replace xm9 := hid (xm9.out.later N.out)
      have xk := hid k_.now
      clear k_
      clear N
      go_wp2_with fail
      refine (hi.out 3 _).mono ?_
      rintro e w29 ⟨rfl, N0⟩
      have N := hid N0
      clear N0
      replace D := hid (D.out.step N.out)
      replace r1 := hid ((N.out.block _ (lt_of_block r1.out)).trans r1.out)
      replace r2 := hid ((N.out.block _ (lt_of_block r2.out)).trans r2.out)
      replace r9 := hid ((N.out.block _ (lt_of_block r9.out)).trans r9.out)
      replace r11 := hid ((N.out.block _ (lt_of_block r11.out)).trans r11.out)
      replace r17 := hid ((N.out.block _ (lt_of_block r17.out)).trans r17.out)
      replace r19 := hid ((N.out.block _ (lt_of_block r19.out)).trans r19.out)
      replace xb := hid (xb.out.later N.out)
      replace xff := hid (xff.out.later N.out)
      replace xhh := hid (xhh.out.later N.out)
      replace xm8 := hid (xm8.out.later N.out)
      replace xm9 := hid (xm9.out.later N.out)
      replace xk := hid (xk.out.later N.out)
      clear N
      go_wp2_with fail
      refine (hp10.out _ _ _ D.out xk.out (rd_flat _ _ (k := 3) (n := 3) (s := ByteArray.empty) ⟨by decide, by decide⟩ ⟨by decide, by decide⟩ (by decide))).mono ?_
      rintro e w30 ⟨cs_, rfl, N0, xm10_⟩
      replace xm10_ : Rd w30 (Free _ _) (kA (listV [intV 1, kB, intV 3])) cs_ := xm10_
      obtain ⟨m10k, m10n, m10t, m10a, m10l, m10c, m10f, m10m, m10g, rfl⟩ := xm10_.cells5
      replace xm10_ := hid xm10_.now_free
      have N := hid N0
      clear N0
      replace D := hid (D.out.step N.out)
      replace r1 := hid ((N.out.block _ (lt_of_block r1.out)).trans r1.out)
      replace r2 := hid ((N.out.block _ (lt_of_block r2.out)).trans r2.out)
      replace r9 := hid ((N.out.block _ (lt_of_block r9.out)).trans r9.out)
      replace r11 := hid ((N.out.block _ (lt_of_block r11.out)).trans r11.out)
      replace r17 := hid ((N.out.block _ (lt_of_block r17.out)).trans r17.out)
      replace r19 := hid ((N.out.block _ (lt_of_block r19.out)).trans r19.out)
      replace xb := hid (xb.out.later N.out)
      replace xff := hid (xff.out.later N.out)
      replace xhh := hid (xhh.out.later N.out)
      replace xm8 := hid (xm8.out.later N.out)
      replace xm9 := hid (xm9.out.later N.out)
      replace xk := hid (xk.out.later N.out)
      have xm10 := xm10_
      clear xm10_
      clear N
      clear xk
      go_upto_region 13 with fail
      obtain ⟨w31, hw_⟩ : ∃ x, x = w30.alloc (.cells #[.int .i64 m10k, .int .i64 m10n, .string m10t, .slice m10a m10l m10c, .slice m10f m10m m10g] 25) := ⟨_, rfl⟩
      have N : Hid (Below w30.heap.size w30 w31) := by show Below _ _ _; rw [hw_]; exact below_new _ _
      have r21_ : Hid (w31.heap[w30.heap.size]? = some (.cells #[.int .i64 m10k, .int .i64 m10n, .string m10t, .slice m10a m10l m10c, .slice m10f m10m m10g] 25 (0, 0))) := by show _ = _; rw [hw_]; exact heap_alloc_new _ _
      rw [← hw_]
      clear hw_
      replace D := hid (D.out.step N.out)
      replace r1 := hid ((N.out.block _ (lt_of_block r1.out)).trans r1.out)
      replace r2 := hid ((N.out.block _ (lt_of_block r2.out)).trans r2.out)
      replace r9 := hid ((N.out.block _ (lt_of_block r9.out)).trans r9.out)
      replace r11 := hid ((N.out.block _ (lt_of_block r11.out)).trans r11.out)
      replace r17 := hid ((N.out.block _ (lt_of_block r17.out)).trans r17.out)
      replace r19 := hid ((N.out.block _ (lt_of_block r19.out)).trans r19.out)
      replace xb := hid (xb.out.later N.out)
      replace xff := hid (xff.out.later N.out)
      replace xhh := hid (xhh.out.later N.out)
      replace xm8 := hid (xm8.out.later N.out)
      replace xm9 := hid (xm9.out.later N.out)
      replace xm10 := hid (xm10.out.later N.out)
      clear N
      have r21 := r21_
      clear r21_
      have hSS13 : Hid (∀ x : World, (∀ b, b < w31.heap.size → x.heap[b]? = w31.heap[b]?) → BoxS w4.heap.size (.int .i64 3) (.int .i64 1) (.string ByteArray.empty) (.slice none 0 0) (.slice none 0 0) x) := fun x h => by
        have h2 := (h _ (lt_of_block r2.out)).trans r2.out
        exact ⟨box_at h2 rfl, box_at h2 rfl, box_at h2 rfl, box_at h2 rfl, box_at h2 rfl⟩
      go_cut [23, 24] from 85 to 90 (fun _ s24 wx => s24 = .int .i64 7 ∧ Below w31.heap.size w31 wx)
      case first =>
        refine wp_region_T (BoxS w4.heap.size (.int .i64 3) (.int .i64 1) (.string ByteArray.empty) (.slice none 0 0) (.slice none 0 0)) 9 (by kernel_rfl) ?_
        have hq0 := hSS13.out w31.drew (fun _ _ => rfl)
        ((refine wpAnyT_take (i := 1) (v := ?_) rfl (by kernel_rfl) (by kernel_rfl) (by kernel_rfl) (by kernel_rfl) (by exact fun _ _ _ h => h) (Or.inl ⟨by kernel_rfl, ?_⟩) hq0 ?_; rotate_left 1; focus (intro w hSw; unfold BoxS at hSw; (try dsimp only at hSw); go_simp; try with_reducible rfl); (try simp only [List.getElem_toArray, List.getElem_cons_zero, List.getElem_cons_succ, Act.put, List.setIfInBounds_toArray, List.set_cons_zero, List.set_cons_succ])))
        refine wpAnyT_two (i := 0) (j := 6) (by kernel_rfl) rfl rfl (fun K hK => ?_) (fun K hK => ?_)
        · go_simp
          refine (hk.out w31.drew).mono ?_
          rintro e wa ⟨gk, hk_, rfl, N0, k_⟩
          have E := hid ((Below.refl w31.heap.size w31).drew.step N0)
          have xk := hid k_.now
          clear k_ N0
          (refine hK.out _ _ (fun _ => hSS13.out wa E.out.block) (fun _ => ?_); clear hK K; (try simp only [Act.put, List.setIfInBounds_toArray, List.set_cons_zero, List.set_cons_succ]))
          refine wpAnyT_two (i := 2) (j := 6) (by kernel_rfl) rfl rfl (fun K hK => ?_) (fun K hK => ?_)
          · go_simp
            refine (hp11.out wa _ _ (D.out.step E.out) xk.out (rd_flat _ _ (k := 3) (n := 1) (s := ByteArray.empty) ⟨by decide, by decide⟩ ⟨by decide, by decide⟩ (by decide))).mono ?_
            rintro e wb ⟨cs_, rfl, N0, xz⟩
            obtain ⟨zk, zn, zt, za, zl, zc, zf, zm, zg, rfl⟩ := xz.cells5
            have E2 := hid (E.out.step N0)
            have hqb := hSS13.out wb E2.out.block
            clear xz N0
            (refine hK.out _ _ (fun _ => hqb) (fun _ => ?_); clear hK K; (try simp only [Act.put, List.setIfInBounds_toArray, List.set_cons_zero, List.set_cons_succ]))
            ((refine wpAnyT_take (i := 3) (v := ?_) rfl (by kernel_rfl) (by kernel_rfl) (by kernel_rfl) (by kernel_rfl) (by exact fun _ _ _ h => h) (Or.inl ⟨by kernel_rfl, ?_⟩) hqb ?_; rotate_left 1; focus (intro w hSw; unfold BoxS at hSw; (try dsimp only at hSw); go_simp; try with_reducible rfl); (try simp only [List.getElem_toArray, List.getElem_cons_zero, List.getElem_cons_succ, Act.put, List.setIfInBounds_toArray, List.set_cons_zero, List.set_cons_succ])); (refine wpAnyT_take (i := 4) (v := ?_) rfl (by kernel_rfl) (by kernel_rfl) (by kernel_rfl) (by kernel_rfl) (by exact fun _ _ _ h => h) (Or.inl ⟨by kernel_rfl, ?_⟩) hqb ?_; rotate_left 1; focus (intro w hSw; unfold BoxS at hSw; (try dsimp only at hSw); go_simp; try with_reducible rfl); (try simp only [List.getElem_toArray, List.getElem_cons_zero, List.getElem_cons_succ, Act.put, List.setIfInBounds_toArray, List.set_cons_zero, List.set_cons_succ])); (refine wpAnyT_take (i := 5) (v := ?_) rfl (by kernel_rfl) (by kernel_rfl) (by kernel_rfl) (by kernel_rfl) (by exact fun _ _ _ h => h) (Or.inl ⟨by kernel_rfl, ?_⟩) hqb ?_; rotate_left 1; focus (intro w hSw; unfold BoxS at hSw; (try dsimp only at hSw); go_simp; try with_reducible rfl); (try simp only [List.getElem_toArray, List.getElem_cons_zero, List.getElem_cons_succ, Act.put, List.setIfInBounds_toArray, List.set_cons_zero, List.set_cons_succ])))
            refine wpAnyT_one (i := 6) (by kernel_rfl) rfl (fun K hK => ?_)
            go_simp
            (refine hK.out _ _ (fun _ => hSS13.out _ (E2.out.step (below_new wb (.cells #[.int .i64 0, .int .i64 0, .string ⟨#[]⟩, .slice none 0 0, .slice none 0 0] 25))).block) (fun _ => ?_); clear hK K; (try simp only [Act.put, List.setIfInBounds_toArray, List.set_cons_zero, List.set_cons_succ]))
            have hqc := hSS13.out _ (E2.out.step (below_new wb (.cells #[.int .i64 zk, .int .i64 zn, .string zt, .slice za zl zc, .slice zf zm zg] 25))).block
            refine wpAnyT_one (i := 7) (by kernel_rfl) rfl (fun K hK => ?_)
            go_simp
            (refine hK.out _ _ (fun _ => hqc) (fun _ => ?_); clear hK K; (try simp only [Act.put, List.setIfInBounds_toArray, List.set_cons_zero, List.set_cons_succ]))
            refine wpAnyT_one (i := 8) (by kernel_rfl) rfl (fun K hK => ?_)
            go_simp
            (refine hK.out _ _ (fun _ => hqc) (fun _ => ?_); clear hK K; (try simp only [Act.put, List.setIfInBounds_toArray, List.set_cons_zero, List.set_cons_succ]))
            refine wpAnyT_done (by kernel_rfl) ?_ _
            go_wp2_with fail
            go_meet
            exact ⟨rfl, E2.out.step (below_new wb (.cells #[.int .i64 zk, .int .i64 zn, .string zt, .slice za zl zc, .slice zf zm zg] 25))⟩
          · go_simp
            obtain ⟨wg, hwg⟩ : ∃ wg, wg = wa.alloc (.cells #[.int .i64 0, .int .i64 0, .string ⟨#[]⟩, .slice none 0 0, .slice none 0 0] 25) := ⟨_, rfl⟩
            have E1 : Hid (Below wa.heap.size wa wg) := by show Below _ _ _; rw [hwg]; exact below_new _ _
            have gz : Hid (wg.heap[wa.heap.size]? = some (.cells #[.int .i64 0, .int .i64 0, .string ⟨#[]⟩, .slice none 0 0, .slice none 0 0] 25 (0, 0))) := by show _ = _; rw [hwg]; exact heap_alloc_new _ _
            rw [← hwg]
            clear hwg
            have E3 := hid (E.out.step E1.out)
            (refine hK.out _ _ (fun _ => hSS13.out wg E3.out.block) (fun _ => ?_); clear hK K; (try simp only [Act.put, List.setIfInBounds_toArray, List.set_cons_zero, List.set_cons_succ]))
            refine wpAnyT_one (i := 2) (by kernel_rfl) rfl (fun K hK => ?_)
            go_simp
            refine (hp11.out wg _ _ (D.out.step E3.out) (xk.out.later E1.out) (rd_flat _ _ (k := 3) (n := 1) (s := ByteArray.empty) ⟨by decide, by decide⟩ ⟨by decide, by decide⟩ (by decide))).mono ?_
            rintro e wb ⟨cs_, rfl, N0, xz⟩
            obtain ⟨zk, zn, zt, za, zl, zc, zf, zm, zg, rfl⟩ := xz.cells5
            have E2 := hid (E3.out.step N0)
            have g4 := hid ((N0.block _ (lt_of_block gz.out)).trans gz.out)
            have hqb := hSS13.out wb E2.out.block
            clear xz N0
            (refine hK.out _ _ (fun _ => hqb) (fun _ => ?_); clear hK K; (try simp only [Act.put, List.setIfInBounds_toArray, List.set_cons_zero, List.set_cons_succ]))
            ((refine wpAnyT_take (i := 3) (v := ?_) rfl (by kernel_rfl) (by kernel_rfl) (by kernel_rfl) (by kernel_rfl) (by exact fun _ _ _ h => h) (Or.inl ⟨by kernel_rfl, ?_⟩) hqb ?_; rotate_left 1; focus (intro w hSw; unfold BoxS at hSw; (try dsimp only at hSw); go_simp; try with_reducible rfl); (try simp only [List.getElem_toArray, List.getElem_cons_zero, List.getElem_cons_succ, Act.put, List.setIfInBounds_toArray, List.set_cons_zero, List.set_cons_succ])); (refine wpAnyT_take (i := 4) (v := ?_) rfl (by kernel_rfl) (by kernel_rfl) (by kernel_rfl) (by kernel_rfl) (by exact fun _ _ _ h => h) (Or.inl ⟨by kernel_rfl, ?_⟩) hqb ?_; rotate_left 1; focus (intro w hSw; unfold BoxS at hSw; (try dsimp only at hSw); go_simp; try with_reducible rfl); (try simp only [List.getElem_toArray, List.getElem_cons_zero, List.getElem_cons_succ, Act.put, List.setIfInBounds_toArray, List.set_cons_zero, List.set_cons_succ])); (refine wpAnyT_take (i := 5) (v := ?_) rfl (by kernel_rfl) (by kernel_rfl) (by kernel_rfl) (by kernel_rfl) (by exact fun _ _ _ h => h) (Or.inl ⟨by kernel_rfl, ?_⟩) hqb ?_; rotate_left 1; focus (intro w hSw; unfold BoxS at hSw; (try dsimp only at hSw); go_simp; try with_reducible rfl); (try simp only [List.getElem_toArray, List.getElem_cons_zero, List.getElem_cons_succ, Act.put, List.setIfInBounds_toArray, List.set_cons_zero, List.set_cons_succ])))
            have c0 := box_at (j := 0) g4.out rfl
            have c1 := box_at (j := 1) g4.out rfl
            have c2 := box_at (j := 2) g4.out rfl
            have c3 := box_at (j := 3) g4.out rfl
            have c4 := box_at (j := 4) g4.out rfl
            have f0 := box_free g4.out
            refine wpAnyT_one (i := 7) (by kernel_rfl) rfl (fun K hK => ?_)
            go_simp
            clear c0 c1 c2 c3 c4
            clear f0
            have hbz := hid (set5_below E2.out E.out.size (.int .i64 zk) (.int .i64 zn) (.string zt) (.slice za zl zc) (.slice zf zm zg))
            have rz := hid (set5_box (u0 := .int .i64 zk) (u1 := .int .i64 zn) (u2 := .string zt) (u3 := .slice za zl zc) (u4 := .slice zf zm zg) g4.out)
            have hkp := hid (fun b (hb : b ≠ wa.heap.size) => set5_other wb (wa.heap.size) (.int .i64 zk) (.int .i64 zn) (.string zt) (.slice za zl zc) (.slice zf zm zg) (b := b) hb)
            have hsz9 := hid (set5_size wb (wa.heap.size) (.int .i64 zk) (.int .i64 zn) (.string zt) (.slice za zl zc) (.slice zf zm zg))
            unfold set5 at hbz rz hkp hsz9
            generalize ((((wb.setCell ⟨wa.heap.size, 0, none⟩ (.int .i64 zk)).setCell ⟨wa.heap.size, 1, none⟩ (.int .i64 zn)).setCell ⟨wa.heap.size, 2, none⟩ (.string zt)).setCell ⟨wa.heap.size, 3, none⟩ (.slice za zl zc)).setCell ⟨wa.heap.size, 4, none⟩ (.slice zf zm zg) = w9 at *
            have hqd := hSS13.out _ hbz.out.block
            (refine hK.out _ _ (fun _ => hqd) (fun _ => ?_); clear hK K; (try simp only [Act.put, List.setIfInBounds_toArray, List.set_cons_zero, List.set_cons_succ]))
            refine wpAnyT_one (i := 8) (by kernel_rfl) rfl (fun K hK => ?_)
            go_simp
            (refine hK.out _ _ (fun _ => hqd) (fun _ => ?_); clear hK K; (try simp only [Act.put, List.setIfInBounds_toArray, List.set_cons_zero, List.set_cons_succ]))
            refine wpAnyT_done (by kernel_rfl) ?_ _
            go_wp2_with fail
            go_meet
            exact ⟨rfl, hbz.out⟩
        · go_simp
          obtain ⟨wg, hwg⟩ : ∃ wg, wg = w31.alloc (.cells #[.int .i64 0, .int .i64 0, .string ⟨#[]⟩, .slice none 0 0, .slice none 0 0] 25) := ⟨_, rfl⟩
          have E1 : Hid (Below w31.heap.size w31 wg) := by show Below _ _ _; rw [hwg]; exact below_new _ _
          have gz : Hid (wg.heap[w31.heap.size]? = some (.cells #[.int .i64 0, .int .i64 0, .string ⟨#[]⟩, .slice none 0 0, .slice none 0 0] 25 (0, 0))) := by show _ = _; rw [hwg]; exact heap_alloc_new _ _
          rw [← hwg]
          clear hwg
          (refine hK.out _ _ (fun _ => hSS13.out wg.drew E1.out.block) (fun _ => ?_); clear hK K; (try simp only [Act.put, List.setIfInBounds_toArray, List.set_cons_zero, List.set_cons_succ]))
          refine wpAnyT_one (i := 0) (by kernel_rfl) rfl (fun K hK => ?_)
          go_simp
          refine (hk.out wg.drew).mono ?_
          rintro e wa ⟨gk, hk_, rfl, N0, k_⟩
          have E := hid (E1.out.step ((Below.refl wg.heap.size wg).drew.step N0))
          have g3 := hid ((((Below.refl wg.heap.size wg).drew.step N0).block _ (lt_of_block gz.out)).trans gz.out)
          have xk := hid k_.now
          clear k_ N0
          (refine hK.out _ _ (fun _ => hSS13.out wa E.out.block) (fun _ => ?_); clear hK K; (try simp only [Act.put, List.setIfInBounds_toArray, List.set_cons_zero, List.set_cons_succ]))
          refine wpAnyT_one (i := 2) (by kernel_rfl) rfl (fun K hK => ?_)
          go_simp
          refine (hp11.out wa _ _ (D.out.step E.out) xk.out (rd_flat _ _ (k := 3) (n := 1) (s := ByteArray.empty) ⟨by decide, by decide⟩ ⟨by decide, by decide⟩ (by decide))).mono ?_
          rintro e wb ⟨cs_, rfl, N0, xz⟩
          obtain ⟨zk, zn, zt, za, zl, zc, zf, zm, zg, rfl⟩ := xz.cells5
          have E2 := hid (E.out.step N0)
          have g4 := hid ((N0.block _ (lt_of_block g3.out)).trans g3.out)
          have hqb := hSS13.out wb E2.out.block
          clear xz N0
          (refine hK.out _ _ (fun _ => hqb) (fun _ => ?_); clear hK K; (try simp only [Act.put, List.setIfInBounds_toArray, List.set_cons_zero, List.set_cons_succ]))
          ((refine wpAnyT_take (i := 3) (v := ?_) rfl (by kernel_rfl) (by kernel_rfl) (by kernel_rfl) (by kernel_rfl) (by exact fun _ _ _ h => h) (Or.inl ⟨by kernel_rfl, ?_⟩) hqb ?_; rotate_left 1; focus (intro w hSw; unfold BoxS at hSw; (try dsimp only at hSw); go_simp; try with_reducible rfl); (try simp only [List.getElem_toArray, List.getElem_cons_zero, List.getElem_cons_succ, Act.put, List.setIfInBounds_toArray, List.set_cons_zero, List.set_cons_succ])); (refine wpAnyT_take (i := 4) (v := ?_) rfl (by kernel_rfl) (by kernel_rfl) (by kernel_rfl) (by kernel_rfl) (by exact fun _ _ _ h => h) (Or.inl ⟨by kernel_rfl, ?_⟩) hqb ?_; rotate_left 1; focus (intro w hSw; unfold BoxS at hSw; (try dsimp only at hSw); go_simp; try with_reducible rfl); (try simp only [List.getElem_toArray, List.getElem_cons_zero, List.getElem_cons_succ, Act.put, List.setIfInBounds_toArray, List.set_cons_zero, List.set_cons_succ])); (refine wpAnyT_take (i := 5) (v := ?_) rfl (by kernel_rfl) (by kernel_rfl) (by kernel_rfl) (by kernel_rfl) (by exact fun _ _ _ h => h) (Or.inl ⟨by kernel_rfl, ?_⟩) hqb ?_; rotate_left 1; focus (intro w hSw; unfold BoxS at hSw; (try dsimp only at hSw); go_simp; try with_reducible rfl); (try simp only [List.getElem_toArray, List.getElem_cons_zero, List.getElem_cons_succ, Act.put, List.setIfInBounds_toArray, List.set_cons_zero, List.set_cons_succ])))
          have c0 := box_at (j := 0) g4.out rfl
          have c1 := box_at (j := 1) g4.out rfl
          have c2 := box_at (j := 2) g4.out rfl
          have c3 := box_at (j := 3) g4.out rfl
          have c4 := box_at (j := 4) g4.out rfl
          have f0 := box_free g4.out
          refine wpAnyT_one (i := 7) (by kernel_rfl) rfl (fun K hK => ?_)
          go_simp
          clear c0 c1 c2 c3 c4
          clear f0
          have hbz := hid (set5_below E2.out (Nat.le_refl _) (.int .i64 zk) (.int .i64 zn) (.string zt) (.slice za zl zc) (.slice zf zm zg))
          have rz := hid (set5_box (u0 := .int .i64 zk) (u1 := .int .i64 zn) (u2 := .string zt) (u3 := .slice za zl zc) (u4 := .slice zf zm zg) g4.out)
          have hkp := hid (fun b (hb : b ≠ w31.heap.size) => set5_other wb (w31.heap.size) (.int .i64 zk) (.int .i64 zn) (.string zt) (.slice za zl zc) (.slice zf zm zg) (b := b) hb)
          have hsz9 := hid (set5_size wb (w31.heap.size) (.int .i64 zk) (.int .i64 zn) (.string zt) (.slice za zl zc) (.slice zf zm zg))
          unfold set5 at hbz rz hkp hsz9
          generalize ((((wb.setCell ⟨w31.heap.size, 0, none⟩ (.int .i64 zk)).setCell ⟨w31.heap.size, 1, none⟩ (.int .i64 zn)).setCell ⟨w31.heap.size, 2, none⟩ (.string zt)).setCell ⟨w31.heap.size, 3, none⟩ (.slice za zl zc)).setCell ⟨w31.heap.size, 4, none⟩ (.slice zf zm zg) = w9 at *
          have hqd := hSS13.out _ hbz.out.block
          (refine hK.out _ _ (fun _ => hqd) (fun _ => ?_); clear hK K; (try simp only [Act.put, List.setIfInBounds_toArray, List.set_cons_zero, List.set_cons_succ]))
          refine wpAnyT_one (i := 8) (by kernel_rfl) rfl (fun K hK => ?_)
          go_simp
          (refine hK.out _ _ (fun _ => hqd) (fun _ => ?_); clear hK K; (try simp only [Act.put, List.setIfInBounds_toArray, List.set_cons_zero, List.set_cons_succ]))
          refine wpAnyT_done (by kernel_rfl) ?_ _
          go_wp2_with fail
          go_meet
          exact ⟨rfl, hbz.out⟩
      case rest =>
        obtain ⟨rfl, hE⟩ := hcut
        have N := hid hE
        clear hE hSS13
        replace D := hid (D.out.step N.out)
        replace r1 := hid ((N.out.block _ (lt_of_block r1.out)).trans r1.out)
        replace r2 := hid ((N.out.block _ (lt_of_block r2.out)).trans r2.out)
        replace r9 := hid ((N.out.block _ (lt_of_block r9.out)).trans r9.out)
        replace r11 := hid ((N.out.block _ (lt_of_block r11.out)).trans r11.out)
        replace r17 := hid ((N.out.block _ (lt_of_block r17.out)).trans r17.out)
        replace r19 := hid ((N.out.block _ (lt_of_block r19.out)).trans r19.out)
        replace r21 := hid ((N.out.block _ (lt_of_block r21.out)).trans r21.out)
        replace xb := hid (xb.out.later N.out)
        replace xff := hid (xff.out.later N.out)
        replace xhh := hid (xhh.out.later N.out)
        replace xm8 := hid (xm8.out.later N.out)
        replace xm9 := hid (xm9.out.later N.out)
        replace xm10 := hid (xm10.out.later N.out)
        clear N
        go_wp2_with fail
        refine (hk.out _).mono ?_
        rintro e w32 ⟨gk, hk_, rfl, N0, k_⟩
        have N := hid N0
        clear N0
        replace D := hid (D.out.step N.out)
        replace r1 := hid ((N.out.block _ (lt_of_block r1.out)).trans r1.out)
        replace r2 := hid ((N.out.block _ (lt_of_block r2.out)).trans r2.out)
        replace r9 := hid ((N.out.block _ (lt_of_block r9.out)).trans r9.out)
        replace r11 := hid ((N.out.block _ (lt_of_block r11.out)).trans r11.out)
        replace r17 := hid ((N.out.block _ (lt_of_block r17.out)).trans r17.out)
        replace r19 := hid ((N.out.block _ (lt_of_block r19.out)).trans r19.out)
        replace r21 := hid ((N.out.block _ (lt_of_block r21.out)).trans r21.out)
        replace xb := hid (xb.out.later N.out)
        replace xff := hid (xff.out.later N.out)
        replace xhh := hid (xhh.out.later N.out)
        replace xm8 := hid (xm8.out.later N.out)
        replace xm9 := hid (xm9.out.later N.out)
        replace xm10 := hid (xm10.out.later N.out)
        have xk := hid k_.now
        clear k_
        clear N
        go_wp2_with fail
        refine (ha12.out _ _ D.out xk.out).mono ?_
        rintro e w33 ⟨cs_, rfl, N0, xm12_⟩
        replace xm12_ : Rd w33 (Free _ _) (kA (listV [intV 5, kB])) cs_ := xm12_
        obtain ⟨m12k, m12n, m12t, m12a, m12l, m12c, m12f, m12m, m12g, rfl⟩ := xm12_.cells5
        replace xm12_ := hid xm12_.now_free
        have N := hid N0
        clear N0
        replace D := hid (D.out.step N.out)
        replace r1 := hid ((N.out.block _ (lt_of_block r1.out)).trans r1.out)
        replace r2 := hid ((N.out.block _ (lt_of_block r2.out)).trans r2.out)
        replace r9 := hid ((N.out.block _ (lt_of_block r9.out)).trans r9.out)
        replace r11 := hid ((N.out.block _ (lt_of_block r11.out)).trans r11.out)
        replace r17 := hid ((N.out.block _ (lt_of_block r17.out)).trans r17.out)
        replace r19 := hid ((N.out.block _ (lt_of_block r19.out)).trans r19.out)
        replace r21 := hid ((N.out.block _ (lt_of_block r21.out)).trans r21.out)
        replace xb := hid (xb.out.later N.out)
        replace xff := hid (xff.out.later N.out)
        replace xhh := hid (xhh.out.later N.out)
        replace xm8 := hid (xm8.out.later N.out)
        replace xm9 := hid (xm9.out.later N.out)
        replace xm10 := hid (xm10.out.later N.out)
        replace xk := hid (xk.out.later N.out)
        have xm12 := xm12_
        clear xm12_
        clear N
        clear xk
        go_upto_region 15 with fail
        obtain ⟨w34, hw_⟩ : ∃ x, x = w33.alloc (.cells #[.int .i64 m12k, .int .i64 m12n, .string m12t, .slice m12a m12l m12c, .slice m12f m12m m12g] 25) := ⟨_, rfl⟩
        have N : Hid (Below w33.heap.size w33 w34) := by show Below _ _ _; rw [hw_]; exact below_new _ _
        have r25_ : Hid (w34.heap[w33.heap.size]? = some (.cells #[.int .i64 m12k, .int .i64 m12n, .string m12t, .slice m12a m12l m12c, .slice m12f m12m m12g] 25 (0, 0))) := by show _ = _; rw [hw_]; exact heap_alloc_new _ _
        rw [← hw_]
        clear hw_
        replace D := hid (D.out.step N.out)
        replace r1 := hid ((N.out.block _ (lt_of_block r1.out)).trans r1.out)
        replace r2 := hid ((N.out.block _ (lt_of_block r2.out)).trans r2.out)
        replace r9 := hid ((N.out.block _ (lt_of_block r9.out)).trans r9.out)
        replace r11 := hid ((N.out.block _ (lt_of_block r11.out)).trans r11.out)
        replace r17 := hid ((N.out.block _ (lt_of_block r17.out)).trans r17.out)
        replace r19 := hid ((N.out.block _ (lt_of_block r19.out)).trans r19.out)
        replace r21 := hid ((N.out.block _ (lt_of_block r21.out)).trans r21.out)
        replace xb := hid (xb.out.later N.out)
        replace xff := hid (xff.out.later N.out)
        replace xhh := hid (xhh.out.later N.out)
        replace xm8 := hid (xm8.out.later N.out)
        replace xm9 := hid (xm9.out.later N.out)
        replace xm10 := hid (xm10.out.later N.out)
        replace xm12 := hid (xm12.out.later N.out)
        clear N
        have r25 := r25_
        clear r25_
        clear hs3 hs5 hs6 hs7 hu8 hu9 hp10 hp11 ha12 hg1 hg2 hg4
        refine known_last (htm.out _ D.out) r1 r2 r9 r11 r17 r19 r21 r25 xb xff xhh xm8 xm9 xm10 xm12 (fun _ _ _ d _ h => by cases d <;> exact h) ?_
        intro u1 u2 u3 u4 u5 u6 u7 u8 u9 u10 u11 u12 u13 u14 u15 u16 u17 u18 u19 u20 u21 u22 u23 u24 u25 u26 u27 u28 u29 u30 u31 u32 u33 u34 u35 u36 u37 u38 u39 u40 u41 u42 u43 u44 u45 u46 u47 u48 u49 u50 u51 u52 u53 u54 u55 u56 u57 u58 u59 u60 u61 u62 u63 u64 u65 u66 u67 u68 u69 u70 u71 u72 u73 u74 u75 u76 u77 u78 u79 u80 u81 u82 u83 u84 u85 u86 u87 u88 u89 u90 u91 u92 u93 u94 u95 u96 u97 u98 u99 u100 u101 u102 u103 u104 u105 u106 u107 u108 u109 u110 u111 u112 u113 u114 u115 u116 u117 u118 u119 u120 u121 u122 u123 u124 u125 u126 u127 u128 u129 u130 u131 u132 u133 u134 u135 u136 u137 u138 u139 u140 u141 u142 u143 u144 u145 u146 u147 u148 u149 u150 u151 u152 u153 u154 u155 u156 u157 u158 u159 u160 u161 u162 u163 u164 u165 u166 u167 u168 u169 u170 u171 u172 u173 u174 wz hz
        go_wp2_with fail
        go_ret
        exact ⟨rfl, D.out.step hz⟩
end Go.Proofs.YthjihdpleclejaaDoor
