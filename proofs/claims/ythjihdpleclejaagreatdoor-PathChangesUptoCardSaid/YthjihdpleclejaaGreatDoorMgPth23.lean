/-
  Walks: the statements' own helpers of chapter 6: same, known. No condition.
  Walk: awake of chapter 6's statements. No condition.
-/
import Derived.Test.YthjihdpleclejaaGreatDoorMgPth14
import Derived.Test.YthjihdpleclejaaGreatDoorMgPthV
import Derived.Test.YthjihdpleclejaaGreatDoorMgVal19
import Derived.Test.YthjihdpleclejaaGreatDoorMgVal12
import Derived.Test.YthjihdpleclejaaGreatDoorMgPth21
namespace Go.Proofs.YthjihdpleclejaaGreatDoor
open Go.RowKit Go.Proofs
set_option maxRecDepth 100000 in
theorem same6_calls (V V' : PVal) (R : Bool) (hR : R = true ↔ V = V') (w : World) (cs cs' : List Value) (hV : Rd w (Now w) V cs) (hV' : Rd w (Now w) V' cs') :
  Calls Tryz.prog 14 #[.agg cs.toArray, .agg cs'.toArray] w fun e w' => e = .returned (.bool R) ∧ Below w.heap.size w w' := by
 have hs := hid (same_calls V V' R hR)
 have hV0 := hid hV
 have hV0' := hid hV'
 clear hR
 obtain ⟨k, n, s, l, fn, fv⟩ := V
 obtain ⟨k', n', s', l', fn', fv'⟩ := V'
 obtain ⟨la, lc, fa, fc, rfl, _⟩ := hV.inv
 obtain ⟨la', lc', fa', fc', rfl, _⟩ := hV'.inv
 clear hV hV'
 have hB0 := hid ((below_new w (.cells #[.int .i64 k, .int .i64 n, .string s, .slice la l.length lc, .slice fa fv.length fc] 25)).step (below_new (w.alloc (.cells #[.int .i64 k, .int .i64 n, .string s, .slice la l.length lc, .slice fa fv.length fc] 25)) (.cells #[.int .i64 k', .int .i64 n', .string s', .slice la' l'.length lc', .slice fa' fv'.length fc'] 25)))
 go_enter Tryz.func14, Tryz.ntmps14
 go_wp2_with fail
 refine (hs.out _ _ _ (hV0.out.later hB0.out) (hV0'.out.later hB0.out)).mono ?_
 rintro e w1 ⟨rfl, h1⟩
 go_wp2_with fail
 go_ret
 exact ⟨rfl, hB0.out.step h1⟩
theorem rdL_pair {w : World} {S : Nat → Prop} {g : Nat} {x y : PVal} {a0 a1 a2 a3 a4 b0 b1 b2 b3 b4 : Value} (hr : w.heap[g]? = some (.cells #[a0, a1, a2, a3, a4, b0, b1, b2, b3, b4] 25 (0, 0))) (hg : S g)
  (hx : Rd w S x [a0, a1, a2, a3, a4]) (hy : Rd w S y [b0, b1, b2, b3, b4]) : RdL w S [x, y] (.slice (some ⟨g, 0, none⟩) 2 2) := by
 refine ⟨some ⟨g, 0, none⟩, 2, fun i => if i = 0 then [a0, a1, a2, a3, a4] else [b0, b1, b2, b3, b4], rfl, by simp, by simp, .inr ⟨g, 0, rfl, hg, fun i hi j v hv => ?_⟩, fun i z hz => ?_⟩
 ·refine box_at hr ?_
  have hi2 : i < 2 := hi
  rcases (show i = 0 ∨ i = 1 by omega) with rfl | rfl
  ·obtain ⟨hj, _⟩ := List.getElem?_eq_some_iff.1 hv
   rcases (show j = 0 ∨ j = 1 ∨ j = 2 ∨ j = 3 ∨ j = 4 by simp at hj; omega) with rfl | rfl | rfl | rfl | rfl <;> simpa using hv
  ·obtain ⟨hj, _⟩ := List.getElem?_eq_some_iff.1 hv
   rcases (show j = 0 ∨ j = 1 ∨ j = 2 ∨ j = 3 ∨ j = 4 by simp at hj; omega) with rfl | rfl | rfl | rfl | rfl <;> simpa using hv
 ·rcases i with _ | _ | i
  ·obtain rfl : x = z := by simpa using hz
   exact hx
  ·obtain rfl : y = z := by simpa using hz
   exact hy
  ·simp at hz
theorem rdF_pair {w : World} {S : Nat → Prop} {g : Nat} {m n : ByteArray} {x y : PVal} {a0 a1 a2 a3 a4 b0 b1 b2 b3 b4 : Value} (hr : w.heap[g]? = some (.cells #[.string m, a0, a1, a2, a3, a4, .string n, b0, b1, b2, b3, b4] 54 (0, 0))) (hg : S g) (hm : m.size ≤ 140737488355328) (hn : n.size ≤ 140737488355328)
  (hx : Rd w S x [a0, a1, a2, a3, a4]) (hy : Rd w S y [b0, b1, b2, b3, b4]) : RdF w S [m, n] [x, y] (.slice (some ⟨g, 0, none⟩) 2 2) := by
 refine ⟨rfl, fun z hz => ?_, some ⟨g, 0, none⟩, 2, fun i => if i = 0 then [a0, a1, a2, a3, a4] else [b0, b1, b2, b3, b4], rfl, by simp, by simp, .inr ⟨g, 0, rfl, hg, fun i hi j v hv => ?_⟩, fun i z hz => ?_⟩
 ·rcases List.mem_cons.1 hz with rfl | hz
  ·exact hm
  ·obtain rfl : z = n := by simpa using hz
   exact hn
 ·refine box_at hr ?_
  have hi2 : i < 2 := hi
  rcases (show i = 0 ∨ i = 1 by omega) with rfl | rfl
  ·obtain ⟨hj, _⟩ := List.getElem?_eq_some_iff.1 hv
   rcases (show j = 0 ∨ j = 1 ∨ j = 2 ∨ j = 3 ∨ j = 4 ∨ j = 5 by simp at hj; omega) with rfl | rfl | rfl | rfl | rfl | rfl <;> simpa using hv
  ·obtain ⟨hj, _⟩ := List.getElem?_eq_some_iff.1 hv
   rcases (show j = 0 ∨ j = 1 ∨ j = 2 ∨ j = 3 ∨ j = 4 ∨ j = 5 by simp at hj; omega) with rfl | rfl | rfl | rfl | rfl | rfl <;> simpa using hv
 ·rcases i with _ | _ | i
  ·obtain rfl : x = z := by simpa using hz
   exact hx
  ·obtain rfl : y = z := by simpa using hz
   exact hy
  ·simp at hz
structure KnownAt (w0 w : World) (g h : Nat) : Prop where
  low : w0.heap.size ≤ g
  row : w.heap[g]? = some (.cells #[.string (bs1 97), .int .i64 5, .int .i64 0, .string ByteArray.empty, .slice (some ⟨h, 0, none⟩) 2 2, .slice none 0 0, .string (bs1 99), .int .i64 4, .int .i64 0, .string (bs1 120), .slice none 0 0, .slice none 0 0] 54 (0, 0))
  rd : Rd w (fun b => b < g) (oneB 2) [.int .i64 5, .int .i64 0, .string ByteArray.empty, .slice (some ⟨h, 0, none⟩) 2 2, .slice none 0 0]
theorem KnownAt.now {w0 w : World} {g h : Nat} (k : KnownAt w0 w g h) : Rd w (Now w) (knownV 2) [.int .i64 6, .int .i64 0, .string ByteArray.empty, .slice none 0 0, .slice (some ⟨g, 0, none⟩) 2 2] :=
 rd_docL (rdF_pair k.row (lt_of_block k.row) (by decide) (by decide) (k.rd.keep (fun _ hb => Nat.lt_trans hb (lt_of_block k.row)) (fun _ _ => rfl)) (rd_flat _ _ ⟨by decide, by decide⟩ ⟨by decide, by decide⟩ (by decide)))
set_option maxRecDepth 100000 in
set_option maxHeartbeats 1000000 in
theorem known_calls (w : World) : Calls Tryz.prog 19 #[] w fun e w' => ∃ g h, e = .returned (.agg #[.int .i64 6, .int .i64 0, .string ByteArray.empty, .slice none 0 0, .slice (some ⟨g, 0, none⟩) 2 2]) ∧ Below w.heap.size w w' ∧ KnownAt w w' g h := by
 have hi := hid (fun n w => int_calls n w)
 have ht := hid (fun s w => text_calls s w)
 have hl := hid list_calls
 have hdo := hid (fun w cs h => doc_calls (bs1 98) (intV 2) (fun _ => False) w cs (by decide) h (fun _ h => h.elim))
 go_enter Tryz.func19, Tryz.ntmps19
 go_wp2_with fail
 refine (hi.out _ _).mono ?_
 rintro e w1 ⟨rfl, h1⟩
 have D1 := hid h1
 clear h1
 go_wp2_with fail
 refine (hi.out _ _).mono ?_
 rintro e w2 ⟨rfl, h2⟩
 have D2 := hid (D1.out.step h2)
 clear h2
 go_wp2_with fail
 refine (hdo.out _ _ (rd_flat w2 (fun _ => False) (k := 3) (n := 2) (s := ByteArray.empty) ⟨by decide, by decide⟩ ⟨by decide, by decide⟩ (by decide))).mono ?_
 rintro e w3 ⟨fa, fc, rfl, hr3, h3⟩
 have D3 := hid (D2.out.step h3)
 have hs2 := hid D2.out.size
 replace hr3 : Hid (Rd w3 (From (w.heap.size + 1) w3) (docV (bs1 98) (intV 2)) _) := hr3.keep (fun b hb => by
  rcases hb with hb | hb
  ·exact hb.elim
  ·exact ⟨by have := hs2.out; simp at this; omega, hb.2⟩) (fun _ _ => rfl)
 clear h3
 go_wp2_with fail
 refine (hl.out _ _ _ _).mono ?_
 rintro e w4 ⟨rfl, h4⟩
 have hA := hid ((below_new w3 (.cells #[.int .i64 3, .int .i64 1, .string ByteArray.empty, .slice none 0 0, .slice none 0 0, .int .i64 6, .int .i64 0, .string ByteArray.empty, .slice none 0 0, .slice fa 1 fc] 25)).step h4)
 have rA := hid ((h4.block _ (lt_of_block (heap_alloc_new w3 (.cells #[.int .i64 3, .int .i64 1, .string ByteArray.empty, .slice none 0 0, .slice none 0 0, .int .i64 6, .int .i64 0, .string ByteArray.empty, .slice none 0 0, .slice fa 1 fc] 25)))).trans (heap_alloc_new w3 (.cells #[.int .i64 3, .int .i64 1, .string ByteArray.empty, .slice none 0 0, .slice none 0 0, .int .i64 6, .int .i64 0, .string ByteArray.empty, .slice none 0 0, .slice fa 1 fc] 25)))
 have D4 := hid (D3.out.step hA.out)
 have hlt4 := lt_of_block rA.out
 have hs3 := D3.out.size
 simp only [World.alloc, Array.size_push] at hs3
 have hr4 : Hid (Rd w4 (From (w.heap.size + 1) w4) (oneB 2) [.int .i64 5, .int .i64 0, .string ByteArray.empty, .slice (some ⟨w3.heap.size, 0, none⟩) 2 2, .slice none 0 0]) := rd_listV (rdL_pair rA.out ⟨hs3, hlt4⟩ (rd_flat _ _ ⟨by decide, by decide⟩ ⟨by decide, by decide⟩ (by decide)) (hr3.out.keep (fun b hb => ⟨hb.1, Nat.lt_of_lt_of_le hb.2 hA.out.size⟩) (fun b hb => hA.out.block b hb.2)))
 clear h4 hA rA hr3 hlt4 hs3
 go_wp2_with fail
 refine (ht.out _ _).mono ?_
 rintro e w5 ⟨rfl, h5⟩
 have D5 := hid (D4.out.step h5)
 replace hr4 : Hid (Rd w5 (From (w.heap.size + 1) w5) (oneB 2) _) := hr4.out.keep (fun b hb => ⟨hb.1, Nat.lt_of_lt_of_le hb.2 h5.size⟩) (fun b hb => h5.block b hb.2)
 clear h5
 have r0 := hid ((D5.out.block _ (lt_of_block (heap_alloc_new w (.cells #[.int .i64 0, .int .i64 0, .string ⟨#[]⟩, .slice none 0 0, .slice none 0 0] 25)))).trans (heap_alloc_new w (.cells #[.int .i64 0, .int .i64 0, .string ⟨#[]⟩, .slice none 0 0, .slice none 0 0] 25)))
 have hw5 := hid (lt_of_block r0.out)
 have s0 := hid (al_old (o := (.cells #[.string ⟨#[97]⟩, .int .i64 5, .int .i64 0, .string ByteArray.empty, .slice (some ⟨w3.heap.size, 0, none⟩) 2 2, .slice none 0 0, .string ⟨#[99]⟩, .int .i64 4, .int .i64 0, .string ⟨#[120]⟩, .slice none 0 0, .slice none 0 0] 54)) r0.out)
 have c0 := box_at (j := 0) s0.out rfl
 have c1 := box_at (j := 1) s0.out rfl
 have c2 := box_at (j := 2) s0.out rfl
 have c3 := box_at (j := 3) s0.out rfl
 have c4 := box_at (j := 4) s0.out rfl
 have f0 := box_free s0.out
 go_wp2_with fail
 clear c0 c1 c2 c3 c4 f0
 have rF := hid (al_at (w := w5) (o := (.cells #[.string ⟨#[97]⟩, .int .i64 5, .int .i64 0, .string ByteArray.empty, .slice (some ⟨w3.heap.size, 0, none⟩) 2 2, .slice none 0 0, .string ⟨#[99]⟩, .int .i64 4, .int .i64 0, .string ⟨#[120]⟩, .slice none 0 0, .slice none 0 0] 54)) rfl)
 have hF := hid (below_new w5 (.cells #[.string ⟨#[97]⟩, .int .i64 5, .int .i64 0, .string ByteArray.empty, .slice (some ⟨w3.heap.size, 0, none⟩) 2 2, .slice none 0 0, .string ⟨#[99]⟩, .int .i64 4, .int .i64 0, .string ⟨#[120]⟩, .slice none 0 0, .slice none 0 0] 54))
 generalize w5.alloc _ = w6 at *
 have s6 := hid ((hF.out.block _ (lt_of_block r0.out)).trans r0.out)
 have hD6 := hid ((below_new w (.cells #[.int .i64 0, .int .i64 0, .string ⟨#[]⟩, .slice none 0 0, .slice none 0 0] 25)).step (D5.out.step hF.out))
 have hbz := hid (set5_below hD6.out (Nat.le_refl _) (.int .i64 6) (.int .i64 0) (.string ⟨#[]⟩) (.slice none 0 0) (.slice (some ⟨w5.heap.size, 0, none⟩) 2 2))
 have rz := hid (set5_box (u0 := .int .i64 6) (u1 := .int .i64 0) (u2 := .string ⟨#[]⟩) (u3 := .slice none 0 0) (u4 := .slice (some ⟨w5.heap.size, 0, none⟩) 2 2) s6.out)
 have hkp := hid (fun b (hb : b ≠ w.heap.size) => set5_other w6 w.heap.size (.int .i64 6) (.int .i64 0) (.string ⟨#[]⟩) (.slice none 0 0) (.slice (some ⟨w5.heap.size, 0, none⟩) 2 2) (b := b) hb)
 unfold set5 at hbz rz hkp
 generalize ((((w6.setCell ⟨w.heap.size, 0, none⟩ (.int .i64 6)).setCell ⟨w.heap.size, 1, none⟩ (.int .i64 0)).setCell ⟨w.heap.size, 2, none⟩ (.string ⟨#[]⟩)).setCell ⟨w.heap.size, 3, none⟩ (.slice none 0 0)).setCell ⟨w.heap.size, 4, none⟩ (.slice (some ⟨w5.heap.size, 0, none⟩) 2 2) = w9 at *
 have z0 := box_at (j := 0) rz.out rfl
 have z1 := box_at (j := 1) rz.out rfl
 have z2 := box_at (j := 2) rz.out rfl
 have z3 := box_at (j := 3) rz.out rfl
 have z4 := box_at (j := 4) rz.out rfl
 have hne : w5.heap.size ≠ w.heap.size := by have := hw5.out; omega
 refine ⟨rfl, _, by simp [results, Tryz.results19, go_sem, z0, z1, z2, z3, z4]; rfl, w5.heap.size, w3.heap.size, rfl, hbz.out, by have := hw5.out; omega, (hkp.out _ hne).trans rF.out, ?_⟩
 exact hr4.out.keep (fun b hb => hb.2) (fun b hb => (hkp.out b (by have := hb.1; omega)).trans (hF.out.block b hb.2))
end Go.Proofs.YthjihdpleclejaaGreatDoor
namespace Go.Proofs.YthjihdpleclejaaGreatDoor
open Go.RowKit Go.Proofs
theorem good_knownP2 : gotP (knownV 2) p1b = some (intV 2) := by
 unfold gotP
 rw [good_known2, if_neg (by decide), steps_1b]
 exact got_known 2
theorem good_knownP3 : gotP (knownV 3) p1b = some (intV 3) := by
 unfold gotP
 rw [good_known3, if_neg (by decide), steps_1b]
 exact got_known 3
theorem good_int3 : (intV 3).good = 0 := by kernel_rfl
theorem set_knownP : setP (knownV 2) p1b (intV 3) = (knownV 3, 0) := by
 have ha : askP (knownV 2) p1b [intV 3] = 0 := by
  unfold askP
  rw [good_known2, steps_1b, if_neg (by decide), if_neg (by simp)]
  simp [good_int3]
 unfold setP doneP
 rw [ha, if_neg (by decide), steps_1b, Option.getD_some, set_known, toldP]
 rw [if_neg (by decide), good_known3, if_neg (by decide)]
theorem mass_known (n : Int) : (knownV n).mass ≤ 1073741824 := by
 simp [knownV, docL, oneB, listV, intV, docV, textV, PVal.mass, massL, massF, bs1, ByteArray.size]
theorem mass_int (n : Int) : (intV n).mass ≤ 1073741824 := by simp [intV, PVal.mass, massL, massF, ByteArray.size]
set_option maxRecDepth 100000 in
set_option maxHeartbeats 2000000 in
theorem awake6_calls (w : World) (hT : Tabs w) (hM : Mx w) : Calls Tryz.prog 5 #[] w fun e w' => e = .returned (.bool true) ∧ Below w.heap.size w w' := by
 have hi := hid (fun n w => int_calls n w)
 have hk := hid known_calls
 have hg2 := hid (fun (w' : World) cs (hb : Below w.heap.size w w') h => get_calls copy_deep p1b (by decide) (knownV 2) (by have := mass_known 2; omega) (w := w') (cs := cs) (Tabs.stays w w' hT hb) (hM.stays hb) h)
 have hg3 := hid (fun (w' : World) cs (hb : Below w.heap.size w w') h => get_calls copy_deep p1b (by decide) (knownV 3) (by have := mass_known 3; omega) (w := w') (cs := cs) (Tabs.stays w w' hT hb) (hM.stays hb) h)
 have hst := hid (fun (w' : World) cs xs (hb : Below w.heap.size w w') h hx => set_calls p1b (by decide) (knownV 2) (intV 3) (mass_known 2) (mass_int 3) (w := w') (cs := cs) (xs := xs) (Tabs.stays w w' hT hb) (hM.stays hb) h hx)
 rw [good_knownP2] at hg2
 rw [good_knownP3] at hg3
 rw [set_knownP] at hst
 unfold Got6 at hg2 hg3
 unfold Done6 at hst
 have hs2 := hid (fun w cs cs' => same6_calls (intV 2) (intV 2) true (by simp) w cs cs')
 have hs3 := hid (fun w cs cs' => same6_calls (intV 3) (intV 3) true (by simp) w cs cs')
 clear hT hM
 go_enter Tryz.func5, Tryz.ntmps5
 have D := hid (Below.refl w.heap.size w)
 go_wp2_with fail
 refine (hk.out _).mono ?_
 rintro e w1 ⟨g1, g1', rfl, N0, k1⟩
 have N := hid N0
 clear N0
 replace D := hid (D.out.step N.out)
 clear N
 have r1 := hid k1.now
 clear k1
 go_wp2_with fail
 refine (hg2.out _ _ D.out r1.out).mono ?_
 rintro e w2 ⟨cs2, rfl, N0, x2_⟩
 replace x2_ : Rd w2 (Free _ w2) (intV 2) cs2 := x2_
 obtain ⟨ka, kc, kf, kg, rfl, _⟩ := x2_.inv
 replace x2_ := hid x2_.now_free
 clear r1
 have N := hid N0
 clear N0
 replace D := hid (D.out.step N.out)
 have x2 := x2_
 clear x2_
 clear N
 go_upto_region 2 with fail
 obtain ⟨w3, hw_⟩ : ∃ x, x = w2.alloc (.cells #[.int .i64 3, .int .i64 2, .string ByteArray.empty, .slice ka 0 kc, .slice kf 0 kg] 25) := ⟨_, rfl⟩
 have N : Hid (Below w2.heap.size w2 w3) := by show Below _ _ _; rw [hw_]; exact below_new _ _
 have r1_ : Hid (w3.heap[w2.heap.size]? = some (.cells #[.int .i64 3, .int .i64 2, .string ByteArray.empty, .slice ka 0 kc, .slice kf 0 kg] 25 (0, 0))) := by show _ = _; rw [hw_]; exact heap_alloc_new _ _
 rw [← hw_]
 clear hw_
 replace D := hid (D.out.step N.out)
 replace x2 := hid (x2.out.later N.out)
 clear N
 have r1 := r1_
 clear r1_
 go_wp2_with fail
 refine (hk.out _).mono ?_
 rintro e w4 ⟨g2, g2', rfl, N0, k2⟩
 have N := hid N0
 clear N0
 replace D := hid (D.out.step N.out)
 replace r1 := hid ((N.out.block _ (lt_of_block r1.out)).trans r1.out)
 replace x2 := hid (x2.out.later N.out)
 clear N
 have xk := hid k2.now
 clear k2
 go_wp2_with fail
 refine (hi.out 3 _).mono ?_
 rintro e w5 ⟨rfl, N0⟩
 have N := hid N0
 clear N0
 replace D := hid (D.out.step N.out)
 replace r1 := hid ((N.out.block _ (lt_of_block r1.out)).trans r1.out)
 replace x2 := hid (x2.out.later N.out)
 replace xk := hid (xk.out.later N.out)
 clear N
 go_wp2_with fail
 refine (hst.out _ _ _ D.out xk.out (rd_flat _ _ (k := 3) (n := 3) (s := ByteArray.empty) ⟨by decide, by decide⟩ ⟨by decide, by decide⟩ (by decide))).mono ?_
 rintro e w6 ⟨cs3, rfl, N0, x3_⟩
 replace x3_ : Rd w6 (Free _ w6) (knownV 3) cs3 := x3_
 obtain ⟨ja, jc, jf, jg, rfl, _⟩ := x3_.inv
 replace x3_ := hid x3_.now_free
 have N := hid N0
 clear N0
 replace D := hid (D.out.step N.out)
 replace r1 := hid ((N.out.block _ (lt_of_block r1.out)).trans r1.out)
 replace x2 := hid (x2.out.later N.out)
 replace xk := hid (xk.out.later N.out)
 have x3 := x3_
 clear x3_ xk
 clear N
 go_upto_region 3 with fail
 obtain ⟨w7, hw_⟩ : ∃ x, x = w6.alloc (.cells #[.int .i64 6, .int .i64 0, .string ByteArray.empty, .slice ja 0 jc, .slice jf 2 jg] 25) := ⟨_, rfl⟩
 have N : Hid (Below w6.heap.size w6 w7) := by show Below _ _ _; rw [hw_]; exact below_new _ _
 have r3_ : Hid (w7.heap[w6.heap.size]? = some (.cells #[.int .i64 6, .int .i64 0, .string ByteArray.empty, .slice ja 0 jc, .slice jf 2 jg] 25 (0, 0))) := by show _ = _; rw [hw_]; exact heap_alloc_new _ _
 rw [← hw_]
 clear hw_
 replace D := hid (D.out.step N.out)
 replace r1 := hid ((N.out.block _ (lt_of_block r1.out)).trans r1.out)
 replace x2 := hid (x2.out.later N.out)
 replace x3 := hid (x3.out.later N.out)
 clear N
 have r3 := r3_
 clear r3_
 have a3_0 := box_at (j := 0) r3.out rfl
 have a3_1 := box_at (j := 1) r3.out rfl
 have a3_2 := box_at (j := 2) r3.out rfl
 have a3_3 := box_at (j := 3) r3.out rfl
 have a3_4 := box_at (j := 4) r3.out rfl
 go_wp2_with fail
 refine (hg3.out _ _ D.out x3.out).mono ?_
 rintro e w8 ⟨cs4, rfl, N0, x4_⟩
 clear a3_0 a3_1 a3_2 a3_3 a3_4
 replace x4_ : Rd w8 (Free _ w8) (intV 3) cs4 := x4_
 obtain ⟨ma, mc, mf, mg, rfl, _⟩ := x4_.inv
 replace x4_ := hid x4_.now_free
 have N := hid N0
 clear N0
 replace D := hid (D.out.step N.out)
 replace r1 := hid ((N.out.block _ (lt_of_block r1.out)).trans r1.out)
 replace r3 := hid ((N.out.block _ (lt_of_block r3.out)).trans r3.out)
 replace x2 := hid (x2.out.later N.out)
 replace x3 := hid (x3.out.later N.out)
 have x4 := x4_
 clear x4_
 clear N
 go_upto_region 4 with fail
 obtain ⟨w9, hw_⟩ : ∃ x, x = w8.alloc (.cells #[.int .i64 3, .int .i64 3, .string ByteArray.empty, .slice ma 0 mc, .slice mf 0 mg] 25) := ⟨_, rfl⟩
 have N : Hid (Below w8.heap.size w8 w9) := by show Below _ _ _; rw [hw_]; exact below_new _ _
 have r5_ : Hid (w9.heap[w8.heap.size]? = some (.cells #[.int .i64 3, .int .i64 3, .string ByteArray.empty, .slice ma 0 mc, .slice mf 0 mg] 25 (0, 0))) := by show _ = _; rw [hw_]; exact heap_alloc_new _ _
 rw [← hw_]
 clear hw_
 replace D := hid (D.out.step N.out)
 replace r1 := hid ((N.out.block _ (lt_of_block r1.out)).trans r1.out)
 replace r3 := hid ((N.out.block _ (lt_of_block r3.out)).trans r3.out)
 replace x2 := hid (x2.out.later N.out)
 replace x3 := hid (x3.out.later N.out)
 replace x4 := hid (x4.out.later N.out)
 clear N
 have r5 := r5_
 clear r5_
 have qi := hid (fun n (p : Later w9) => hi.out n p.x)
 have q2 := hid (fun (p : Later w9) => hs2.out p.x _ _ (x2.out.later p.h) (rd_flat _ _ (k := 3) (n := 2) (s := ByteArray.empty) ⟨by decide, by decide⟩ ⟨by decide, by decide⟩ (by decide)))
 have q3 := hid (fun (p : Later w9) => hs3.out p.x _ _ (x4.out.later p.h) (rd_flat _ _ (k := 3) (n := 3) (s := ByteArray.empty) ⟨by decide, by decide⟩ ⟨by decide, by decide⟩ (by decide)))
 have a0 := Later.cell (box_at (j := 0) r1.out rfl)
 have a1 := Later.cell (box_at (j := 1) r1.out rfl)
 have a2 := Later.cell (box_at (j := 2) r1.out rfl)
 have a3 := Later.cell (box_at (j := 3) r1.out rfl)
 have a4 := Later.cell (box_at (j := 4) r1.out rfl)
 have b0 := Later.cell (box_at (j := 0) r5.out rfl)
 have b1 := Later.cell (box_at (j := 1) r5.out rfl)
 have b2 := Later.cell (box_at (j := 2) r5.out rfl)
 have b3 := Later.cell (box_at (j := 3) r5.out rfl)
 have b4 := Later.cell (box_at (j := 4) r5.out rfl)
 refine wp_later (by kernel_rfl) (by kernel_rfl) ?_
 repeat (go_big_quiet_step ((first
  | (go_at_call 20; exact later_calls _ (qi.out _ _))
  | (go_at_call 14; exact later_calls _ (q2.out _))
  | (go_at_call 14; exact later_calls _ (q3.out _)))))
 refine wpQuiet_nil ?_
 rintro _ ⟨q, rfl⟩
 clear a0 a1 a2 a3 a4 b0 b1 b2 b3 b4
 go_wp2_with fail
 go_ret
 exact ⟨rfl, D.out.step q.h⟩
end Go.Proofs.YthjihdpleclejaaGreatDoor
