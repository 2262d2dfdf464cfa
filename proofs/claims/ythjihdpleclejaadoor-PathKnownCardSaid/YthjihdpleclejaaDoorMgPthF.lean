/-
  Plain: what is laid below nothing. No condition.
  Walk: the law PathDeep. No condition.
-/
import Derived.Test.YthjihdpleclejaaDoorMgPthV
import Derived.Test.YthjihdpleclejaaDoorMgPth25
namespace Go.Proofs.YthjihdpleclejaaDoor

/-- A value below names. -/
def nestD : List ByteArray → PVal → PVal
  | [], x => x
  | s :: r, x => docL [s] [nestD r x]
theorem deep_at {x : PVal} : ∀ (l : List ByteArray), (atP (toSet x) true docE l).e = 0 → (atP (toSet x) true docE l).v = nestD l x
  | [], _ => by rw [atP_nil]; rfl
  | s :: r, h => by
    rw [atP_cons] at h ⊢
    cases hp : place s with
    | some n =>
      rw [hp] at h
      simp [docE, PVal.k] at h
    | none =>
      rw [hp] at h
      have hk : ¬ docE.k ≠ 6 := by simp [docE, PVal.k]
      have hf : findP s docE.fn docE.fv = none := by simp [docE, PVal.fn, PVal.fv, findP]
      simp only [hf] at h ⊢
      rw [if_neg hk, if_neg (by simp)] at h ⊢
      rw [atF_e] at h
      have ih := deep_at r h
      have hg : (atP (toSet x) true docE r).gone = false := atP_gone (fun _ => rfl) r docE
      generalize atP (toSet x) true docE r = q at *
      unfold atF
      simp only [hg]
      simp [docE, PVal.fn, PVal.fv, posP, insA, nestD, ih]
theorem deep_law {p : ByteArray} {x : PVal} (h : (setP docE p x).2 = 0) : ∃ l, stepsP p = some l ∧ (setP docE p x).1 = nestD l x := by
  obtain ⟨_, _, a, h2, h3, h4, _⟩ := done_ok h
  refine ⟨a, h2, ?_⟩
  have h6 : (setP docE p x).1 = (atP (toSet x) true docE a).v := h4.symm
  rw [h6]
  exact deep_at a h3
theorem nestD_count (x : PVal) : ∀ l : List ByteArray, (nestD l x).count = l.length + x.count
  | [] => by simp [nestD]
  | s :: r => by
    have ih := nestD_count x r
    rw [nestD, docL, count_parts]
    simp only [PVal.parts]
    simp [countL, ih]
    omega
theorem nestD_depth (x : PVal) : ∀ l : List ByteArray, (nestD l x).depth = l.length + x.depth
  | [] => by simp [nestD]
  | s :: r => by
    have ih := nestD_depth x r
    rw [nestD, depth_docL]
    simp [depthL, ih]
    omega
end Go.Proofs.YthjihdpleclejaaDoor

namespace Go.Proofs.YthjihdpleclejaaDoor
open Go.RowKit Go.Proofs
/-- A value's five cells. -/
theorem Rd.cells5 {w : World} {S : Nat → Prop} {V : PVal} {cs : List Value} (h : Rd w S V cs) : ∃ k n s la ln lc fa fl fc, cs = [.int .i64 k, .int .i64 n, .string s, .slice la ln lc, .slice fa fl fc] := by
  cases h
  exact ⟨_, _, _, _, _, _, _, _, _, rfl⟩

set_option maxRecDepth 100000 in
set_option maxHeartbeats 8000000 in
theorem deep_calls (ns : List ByteArray) (hns : ∀ s ∈ ns, s.size ≤ 1048576) (X0 : PVal) (hmx : X0.mass ≤ 33554432) {w : World} {na : Option Addr} {nc : Nat} {xs : List Value} (hT : Tabs w) (hM : Mx w) (hN : StrsAt w (Now w) ns (.slice na ns.length nc)) (hx : Rd w (Now w) X0 xs) :
    Calls Tryd.prog 5 #[.slice na ns.length nc, .agg xs.toArray] w fun e w' => e = .returned (.bool true) ∧ Below w.heap.size w w' := by
  have hva := hid (fun la c' w h => vast_calls [X0] la c' w h (by simp))
  have hst := hid (fun (pa : ByteArray) (hpa : pa.size < 4294967281) (w' : World) cs xs (h : Below w.heap.size w w') hv hx => set_calls pa hpa docE X0 (by rw [mass_docE]; omega) (by omega) (w := w') (cs := cs) (xs := xs) (Tabs.stays w w' hT h) (hM.stays h) hv hx)
  have hsp := hid (fun (pa : ByteArray) (hpa : pa.size < 4294967281) (w' : World) (h : Below w.heap.size w w') => steps_calls pa w' hpa (hM.stays h))
  have haw := hid (fun (w' : World) (h : Below w.heap.size w w') => awake6_calls w' (Tabs.stays w w' hT h) (hM.stays h))
  have hsm := hid (fun (V : PVal) w cs cs' h h' => same6_calls V V true (by simp) w cs cs' h h')
  have hze := hid (fun w cs h => zero6_calls zeroP true (by simp) w cs h)
  have hnx : X0.nodes ≤ 33554432 := by have := nodes_mass X0; omega
  have hdp := hid (fun (V : PVal) (h : V.nodes ≤ 1000000000000) w cs hr => depth_big V w cs h hr)
  have hct := hid (fun (V : PVal) (h : V.nodes ≤ 1000000000000) w cs hr => count_big V w cs h hr)
  have hlim : ns.length ≤ 9223372036854775807 := by obtain ⟨_, _, e, h1, h2, _⟩ := hN; omega
  unfold Done6 at hst
  have hns0 := hid hns
  clear hT hM hns
  have xU := hid hx
  have xN := hid hN
  generalize vast [X0] = T at *
  have hmX := hmx
  obtain ⟨uk, un, ut, ua, ul, uc, va, uf, vc, rfl⟩ := hx.cells5
  clear hx hN hmx
  go_enter Tryd.func5, Tryd.ntmps5
  have D := hid (Below.refl w.heap.size w)
  go_upto_region 1 with fail
  obtain ⟨w1, hw_⟩ : ∃ x, x = w.alloc (.cells #[.int .i64 uk, .int .i64 un, .string ut, .slice ua ul uc, .slice va uf vc] 25) := ⟨_, rfl⟩
  have N : Hid (Below w.heap.size w w1) := by show Below _ _ _; rw [hw_]; exact below_new _ _
  have r3_ : Hid (w1.heap[w.heap.size]? = some (.cells #[.int .i64 uk, .int .i64 un, .string ut, .slice ua ul uc, .slice va uf vc] 25 (0, 0))) := by show _ = _; rw [hw_]; exact heap_alloc_new _ _
  rw [← hw_]
  clear hw_
  replace D := hid (D.out.step N.out)
  replace xU := hid (xU.out.later N.out)
  replace xN := hid (xN.out.later N.out)
  clear N
  have r3 := r3_
  clear r3_
  go_wp2_with fail
  refine (haw.out _ D.out).mono ?_
  rintro e w2 ⟨rfl, N0⟩
  have N := hid N0
  clear N0
  replace D := hid (D.out.step N.out)
  replace r3 := hid ((N.out.block _ (lt_of_block r3.out)).trans r3.out)
  replace xU := hid (xU.out.later N.out)
  replace xN := hid (xN.out.later N.out)
  clear N
  have a3_0 := box_at (j := 0) r3.out rfl
  have a3_1 := box_at (j := 1) r3.out rfl
  have a3_2 := box_at (j := 2) r3.out rfl
  have a3_3 := box_at (j := 3) r3.out rfl
  have a3_4 := box_at (j := 4) r3.out rfl
  go_wp2_with fail
  refine (hva.out (some ⟨w2.heap.size, 0, none⟩) 1 _ (rdL_sole (x := X0) (xs := [.int .i64 uk, .int .i64 un, .string ut, .slice ua ul uc, .slice va uf vc]) (al_at rfl) (xU.out.later (below_new _ _)))).mono ?_
  rintro e w3 ⟨rfl, N0⟩
  clear a3_0 a3_1 a3_2 a3_3 a3_4
  replace N0 := (below_new w2 (.cells #[.int .i64 uk, .int .i64 un, .string ut, .slice ua ul uc, .slice va uf vc] 25)).step N0
  have N := hid N0
  clear N0
  replace D := hid (D.out.step N.out)
  replace r3 := hid ((N.out.block _ (lt_of_block r3.out)).trans r3.out)
  replace xU := hid (xU.out.later N.out)
  replace xN := hid (xN.out.later N.out)
  clear N
  cases T with
  | true =>
    go_wp2_with fail
    go_ret
    exact ⟨rfl, D.out⟩
  | false =>
  go_wp2_with fail
  go_loopg [5, 6] ns.length (fun g p i wr => ∃ (j : Nat) (pa : ByteArray), g + j = ns.length ∧ p = .string pa ∧ i = .int .i64 j ∧ j ≤ 8 ∧ pa.size ≤ j * 1048577 ∧ Below w3.heap.size w3 wr)
  case atStart => exact ⟨0, ⟨#[]⟩, by omega, rfl, rfl, by omega, by simp [ByteArray.size], Below.refl _ _⟩
  case round =>
    obtain ⟨j, pa, hg, rfl, rfl, hj8, hps, hb⟩ := hrel
    have N := hid hb
    replace D := hid (D.out.step N.out)
    replace r3 := hid ((N.out.block _ (lt_of_block r3.out)).trans r3.out)
    replace xU := hid (xU.out.later N.out)
    replace xN := hid (xN.out.later N.out)
    clear N
    by_cases hgo : j < ns.length ∧ j < 8
    · obtain ⟨hln, hl8⟩ := hgo
      have hl8i : (j : Int) < 8 := by omega
      have e1 : IntKind.i64.wrap ((j : Int) + 1) = (j : Int) + 1 := by rw [IntWalk.i64_in _ (by omega)]
      obtain ⟨s, hs⟩ : ∃ s, ns[j]? = some s := ⟨_, List.getElem?_eq_getElem hln⟩
      have hss := hns0.out s (List.mem_of_getElem? hs)
      obtain ⟨b1, o1, rfl, c1⟩ := xN.out.at_ hs
      clear hs
      by_cases hj0 : 0 < j
      · have hj0i : (0 : Int) < (j : Int) := by omega
        have hsz1 : pa.size + 1 ≤ 9437185 := by omega
        have hsz2 : (pa ++ (⟨#[46]⟩ : ByteArray)).size = pa.size + 1 := by rw [ByteArray.size_append]; rfl
        have hsz3 : (pa ++ (⟨#[46]⟩ : ByteArray)).size + s.size ≤ 10485762 := by omega
        go_wp2_with fail
        go_roundg (ns.length - (j + 1))
        case measure => omega
        case rel => exact ⟨j + 1, _, by omega, rfl, by go_num, by omega, by rw [ByteArray.size_append]; omega, hb⟩
      · obtain rfl : j = 0 := by omega
        have hsz3 : pa.size + s.size ≤ 10485762 := by omega
        have hfin : Hid (pa.size + s.size ≤ 1 * 1048577) := by show _ ≤ _; omega
        clear hj0 hj8 hps hl8i hl8 e1 hss
        rw [Nat.add_zero] at c1
        go_wp2_with fail
        go_roundg (ns.length - 1)
        case measure => omega
        case rel => exact ⟨1, _, by omega, rfl, by go_num, by omega, by rw [ByteArray.size_append]; exact hfin.out, hb⟩
    · skip
      by_cases hln : j < ns.length
      · have hl8 : ¬ (j : Int) < 8 := fun h => hgo ⟨hln, by omega⟩
        clear hgo
        have hpa : pa.size < 4294967281 := by have : j * 1048577 ≤ 8 * 1048577 := Nat.mul_le_mul_right _ hj8; omega
        have hsc := hid (hst.out pa hpa)
        have hsq := hid (hsp.out pa hpa)
        have hbad : Hid ((setP docE pa X0).2 ≠ 0 → (setP docE pa X0).1 = zeroP) := fun h => done_bad h
        have hmsv : Hid ((setP docE pa X0).1.mass ≤ 1000000000000) := by have := set_mass (M := 33554432) (v := docE) (x := X0) (p := pa) (by omega) (by rw [mass_docE]; omega) hmX; show _ ≤ _; omega
        have hdeep : Hid ((setP docE pa X0).2 = 0 → ∃ l, stepsP pa = some l ∧ (setP docE pa X0).1 = nestD l X0) := fun h => deep_law h
        clear hst hsp
        obtain ⟨SR, hSR⟩ : ∃ R, R = setP docE pa X0 := ⟨_, rfl⟩
        rw [← hSR] at hsc hbad hdeep hmsv
        obtain ⟨SV, SE⟩ := SR
        simp only at hsc hbad hdeep hmsv
        clear hSR hb hps hj8 hg hlim
        go_upto_region 13 with fail
        obtain ⟨w4, hw_⟩ : ∃ x, x = wr.alloc (.cells #[.int .i64 6, .int .i64 0, .string ⟨#[]⟩, .slice none 0 0, .slice none 0 0] 25) := ⟨_, rfl⟩
        have N : Hid (Below wr.heap.size wr w4) := by show Below _ _ _; rw [hw_]; exact below_new _ _
        have r7_ : Hid (w4.heap[wr.heap.size]? = some (.cells #[.int .i64 6, .int .i64 0, .string ⟨#[]⟩, .slice none 0 0, .slice none 0 0] 25 (0, 0))) := by show _ = _; rw [hw_]; exact heap_alloc_new _ _
        rw [← hw_]
        clear hw_
        replace D := hid (D.out.step N.out)
        replace r3 := hid ((N.out.block _ (lt_of_block r3.out)).trans r3.out)
        replace xU := hid (xU.out.later N.out)
        replace xN := hid (xN.out.later N.out)
        clear N
        have r7 := r7_
        clear r7_
        have a7_0 := box_at (j := 0) r7.out rfl
        have a7_1 := box_at (j := 1) r7.out rfl
        have a7_2 := box_at (j := 2) r7.out rfl
        have a7_3 := box_at (j := 3) r7.out rfl
        have a7_4 := box_at (j := 4) r7.out rfl
        have a3_0 := box_at (j := 0) r3.out rfl
        have a3_1 := box_at (j := 1) r3.out rfl
        have a3_2 := box_at (j := 2) r3.out rfl
        have a3_3 := box_at (j := 3) r3.out rfl
        have a3_4 := box_at (j := 4) r3.out rfl
        go_wp2_with fail
        refine (hsc.out _ _ _ D.out rd_docE xU.out).mono ?_
        rintro e w5 ⟨cs_, rfl, N0, xx_⟩
        clear a7_0 a7_1 a7_2 a7_3 a7_4 a3_0 a3_1 a3_2 a3_3 a3_4
        obtain ⟨xk, xn, xt, ya, xl, yc, za, xf, zc, rfl⟩ := xx_.cells5
        replace xx_ := hid xx_.now_free
        have N := hid N0
        clear N0
        replace D := hid (D.out.step N.out)
        replace r3 := hid ((N.out.block _ (lt_of_block r3.out)).trans r3.out)
        replace r7 := hid ((N.out.block _ (lt_of_block r7.out)).trans r7.out)
        replace xU := hid (xU.out.later N.out)
        replace xN := hid (xN.out.later N.out)
        have xx := xx_
        clear xx_
        clear N
        have DO := D
        have XO := xU
        have RO := r3
        have xz := hid xx.out
        have hms : Hid (SV.mass ≤ 1000000000000) := hmsv.out
        go_upto_region 14 with fail
        obtain ⟨w6, hw_⟩ : ∃ x, x = w5.alloc (.cells #[.int .i64 xk, .int .i64 xn, .string xt, .slice ya xl yc, .slice za xf zc] 25) := ⟨_, rfl⟩
        have N : Hid (Below w5.heap.size w5 w6) := by show Below _ _ _; rw [hw_]; exact below_new _ _
        have r8_ : Hid (w6.heap[w5.heap.size]? = some (.cells #[.int .i64 xk, .int .i64 xn, .string xt, .slice ya xl yc, .slice za xf zc] 25 (0, 0))) := by show _ = _; rw [hw_]; exact heap_alloc_new _ _
        rw [← hw_]
        clear hw_
        replace D := hid (D.out.step N.out)
        replace r3 := hid ((N.out.block _ (lt_of_block r3.out)).trans r3.out)
        replace r7 := hid ((N.out.block _ (lt_of_block r7.out)).trans r7.out)
        replace xU := hid (xU.out.later N.out)
        replace xN := hid (xN.out.later N.out)
        replace xx := hid (xx.out.later N.out)
        have B8 := N
        clear N
        have r8 := r8_
        clear r8_
        by_cases hSE : SE = 0
        · subst hSE
          obtain ⟨ll, hll, hnest⟩ := hdeep.out rfl
          clear hdeep hbad
          have h78_ := hid (lt_of_block r8.out)
          go_wp2_with fail
          refine (hsq.out _ D.out).mono ?_
          rintro e w7 ⟨N0, hs_⟩
          rw [hll] at hs_
          obtain ⟨vl, rfl, ys_⟩ := hs_
          obtain ⟨sa, sc, rfl, hb1, hb2, _⟩ := id ys_
          have hla : ll.length ≤ 9223372036854775807 := Nat.le_trans hb1 hb2
          clear hb1 hb2
          have N := hid N0
          clear N0
          replace D := hid (D.out.step N.out)
          replace r3 := hid ((N.out.block _ (lt_of_block r3.out)).trans r3.out)
          replace r7 := hid ((N.out.block _ (lt_of_block r7.out)).trans r7.out)
          replace r8 := hid ((N.out.block _ (lt_of_block r8.out)).trans r8.out)
          replace xU := hid (xU.out.later N.out)
          replace xN := hid (xN.out.later N.out)
          replace xx := hid (xx.out.later N.out)
          replace B8 := hid (B8.out.step N.out)
          clear N
          have hSVn : SV.nodes ≤ 1000000000000 := by have := nodes_mass SV; have := hms.out; omega
          have hXn : X0.nodes ≤ 1000000000000 := by omega
          have hc1 := nestD_count X0 ll
          have hd1 := nestD_depth X0 ll
          have hcX := count_le_nodes X0
          have hdX := depth_le_nodes X0
          have hcS := count_le_nodes SV
          have hdS := depth_le_nodes SV
          rw [← hnest] at hc1 hd1
          have qc := hid (fun (p : Later w7) => hct.out SV hSVn p.x _ (xx.out.later p.h))
          have qd := hid (fun (p : Later w7) => hdp.out SV hSVn p.x _ (xx.out.later p.h))
          have qc2 := hid (fun (p : Later w7) => hct.out X0 hXn p.x _ (xU.out.later p.h))
          have qd2 := hid (fun (p : Later w7) => hdp.out X0 hXn p.x _ (xU.out.later p.h))
          generalize SV.count = CS at *
          generalize SV.depth = DS at *
          generalize X0.count = CX at *
          generalize X0.depth = DX at *
          have ec : IntKind.i64.wrap ((ll.length : Int) + (CX : Int)) = (CS : Int) := by rw [IntWalk.i64_in _ (by omega)]; omega
          have ed : IntKind.i64.wrap ((ll.length : Int) + (DX : Int)) = (DS : Int) := by rw [IntWalk.i64_in _ (by omega)]; omega
          replace hc1 := hid hc1
          replace hd1 := hid hd1
          have a0 := Later.cell (box_at (j := 0) r8.out rfl)
          have a1 := Later.cell (box_at (j := 1) r8.out rfl)
          have a2 := Later.cell (box_at (j := 2) r8.out rfl)
          have a3 := Later.cell (box_at (j := 3) r8.out rfl)
          have a4 := Later.cell (box_at (j := 4) r8.out rfl)
          have b0 := Later.cell (box_at (j := 0) r3.out rfl)
          have b1 := Later.cell (box_at (j := 1) r3.out rfl)
          have b2 := Later.cell (box_at (j := 2) r3.out rfl)
          have b3 := Later.cell (box_at (j := 3) r3.out rfl)
          have b4 := Later.cell (box_at (j := 4) r3.out rfl)
          go_upto_region 17 with fail
          refine wp_later (by kernel_rfl) (by kernel_rfl) ?_
          iterate 8 (go_big_quiet_step ((go_at_call 19; exact later_calls _ (qc.out _))))
          iterate 6 (go_big_quiet_step ((go_at_call 19; exact later_calls _ (qc2.out _))))
          iterate 4 (go_big_quiet_step ((go_at_call 20; exact later_calls _ (qd.out _))))
          repeat (go_big_quiet_step ((go_at_call 20; exact later_calls _ (qd2.out _))))
          refine wpQuiet_nil ?_
          rintro _ ⟨q, rfl⟩
          obtain ⟨wq, hq⟩ := q
          clear a0 a1 a2 a3 a4 b0 b1 b2 b3 b4 qc qd qc2 qd2 ec ed hc1 hd1 hcX hdX hcS hdS hct hdp
          have N := hid hq
          replace D := hid (D.out.step N.out)
          replace r3 := hid ((N.out.block _ (lt_of_block r3.out)).trans r3.out)
          replace r7 := hid ((N.out.block _ (lt_of_block r7.out)).trans r7.out)
          replace r8 := hid ((N.out.block _ (lt_of_block r8.out)).trans r8.out)
          replace xU := hid (xU.out.later N.out)
          replace xN := hid (xN.out.later N.out)
          replace xx := hid (xx.out.later N.out)
          replace B8 := hid (B8.out.step N.out)
          have ys := hid (ys_.keep (w' := wq) (fun _ h => h) (fun b hb => N.out.block b hb.2))
          have hqs : Hid (w7.heap.size ≤ wq.heap.size) := N.out.size
          clear ys_ N
          simp only
          go_wp2_with fail
          have x8 : Hid (Rd wq (Now w5) SV [.int .i64 xk, .int .i64 xn, .string xt, .slice ya xl yc, .slice za xf zc]) := xz.out.keep (fun _ h => h) (fun b hb => B8.out.block b hb)
          rw [hnest] at x8
          have h78 : Hid (w5.heap.size < w6.heap.size) := h78_.out
          clear xz xx hnest
          go_loopg [12] ll.length (fun g i wz => ∃ (j : Nat) (v0 v1 v2 v3 v4 : Value), g + j = ll.length ∧ i = .int .i64 j ∧ wz.heap[w5.heap.size]? = some (.cells #[v0, v1, v2, v3, v4] 25 (0, 0)) ∧ Rd wz (Now w5) (nestD (ll.drop j) X0) [v0, v1, v2, v3, v4] ∧ StrsAt wz (From w6.heap.size w7) ll (.slice sa ll.length sc) ∧ Below w5.heap.size w5 wz ∧ w7.heap.size ≤ wz.heap.size)
          case atStart => exact ⟨0, _, _, _, _, _, by omega, rfl, r8.out, by rw [List.drop_zero]; exact x8.out, ys.out, B8.out, hqs.out⟩
          case round =>
            clear D xU xN r3 r7 r8 x8 ys B8 hqs
            obtain ⟨j2, v0, v1, v2, v3, v4, hg2, rfl, q8, hr, hys, hb, hws⟩ := hrel
            replace hws := hid hws
            replace hb := hid hb
            replace q8 := hid q8
            replace hys := hid hys
            by_cases hlt : j2 < ll.length
            · obtain ⟨s, hs⟩ : ∃ s, ll[j2]? = some s := ⟨_, List.getElem?_eq_getElem hlt⟩
              have hdr : ll.drop j2 = s :: ll.drop (j2 + 1) := by rw [List.drop_eq_getElem_cons hlt, (List.getElem?_eq_some_iff.1 hs).2]
              rw [hdr, nestD] at hr
              obtain ⟨la2, lc2, fa2, fc2, hcs, _, _, _, _, _, _, _, _, hF⟩ := (show Rd wr (Now w5) (.mk 6 0 ByteArray.empty [] [s] [nestD (ll.drop (j2 + 1)) X0]) _ from hr).inv
              simp only [List.cons.injEq, and_true] at hcs
              obtain ⟨rfl, rfl, rfl, rfl, rfl⟩ := hcs
              obtain ⟨b, off, ys5, rfl, hSb, hc, hrY, _⟩ := hF.at_ (i := 0) rfl rfl
              obtain ⟨yk, yn, yt, ya2, yl2, yc2, za2, zf2, zc2, rfl⟩ := hrY.cells5
              obtain ⟨c0, c1, c2, c3, c4, c5⟩ := six hc
              simp only [Nat.zero_mul, Nat.add_zero] at c0 c1 c2 c3 c4 c5
              obtain ⟨b1, o1, rfl, k1⟩ := hys.out.at_ hs
              have e1 : IntKind.i64.wrap ((j2 : Int) + 1) = (j2 : Int) + 1 := by rw [IntWalk.i64_in _ (by omega)]
              replace hrY := hid hrY
              have a0 := box_at (j := 0) q8.out rfl
              have a1 := box_at (j := 1) q8.out rfl
              have a2 := box_at (j := 2) q8.out rfl
              have a3 := box_at (j := 3) q8.out rfl
              have a4 := box_at (j := 4) q8.out rfl
              have f0 := box_free q8.out
              clear hs hdr hr hF hc hSb
              simp only [List.length_cons, List.length_nil] at a3 a4
              go_wp2_with fail
              go_quiet (fail)
              go_wp2_with fail
              clear a0 a1 a2 a3 a4 c0 c1 c2 c3 c4 c5 k1 f0
              have N2 := hid (below_drewN (Below.refl wr.heap.size wr) nq)
              have q8d := hid ((N2.out.block _ (lt_of_block q8.out)).trans q8.out)
              have hbd := hid (below_drewN hb.out nq)
              have hbz := hid (set5_below hbd.out (Nat.le_refl _) (.int .i64 yk) (.int .i64 yn) (.string yt) (.slice ya2 yl2 yc2) (.slice za2 zf2 zc2))
              have rz := hid (set5_box (u0 := .int .i64 yk) (u1 := .int .i64 yn) (u2 := .string yt) (u3 := .slice ya2 yl2 yc2) (u4 := .slice za2 zf2 zc2) q8d.out)
              have hkp := hid (fun b (hb : b ≠ w5.heap.size) => set5_other (wr.drewN nq) (w5.heap.size) (.int .i64 yk) (.int .i64 yn) (.string yt) (.slice ya2 yl2 yc2) (.slice za2 zf2 zc2) (b := b) hb)
              have hsz9 := hid (set5_size (wr.drewN nq) (w5.heap.size) (.int .i64 yk) (.int .i64 yn) (.string yt) (.slice ya2 yl2 yc2) (.slice za2 zf2 zc2))
              unfold set5 at hbz rz hkp hsz9
              generalize (((((wr.drewN nq).setCell ⟨w5.heap.size, 0, none⟩ (.int .i64 yk)).setCell ⟨w5.heap.size, 1, none⟩ (.int .i64 yn)).setCell ⟨w5.heap.size, 2, none⟩ (.string yt)).setCell ⟨w5.heap.size, 3, none⟩ (.slice ya2 yl2 yc2)).setCell ⟨w5.heap.size, 4, none⟩ (.slice za2 zf2 zc2) = w9 at *
              go_roundg (ll.length - (j2 + 1))
              case measure => omega
              case rel => exact ⟨j2 + 1, _, _, _, _, _, by omega, by go_num, rz.out, hrY.out.keep (fun _ h => h) (fun c hc => (hkp.out c (by have : c < w5.heap.size := hc; omega)).trans (N2.out.block c (Nat.lt_of_lt_of_le hc hb.out.size))), hys.out.keep (fun _ h => h) (fun c hc => (hkp.out c (by have := hc.1; have := h78.out; omega)).trans (N2.out.block c (Nat.lt_of_lt_of_le hc.2 hws.out))), hbz.out, by rw [hsz9.out]; exact Nat.le_trans hws.out N2.out.size⟩
            · have hd0 : ll.drop j2 = [] := List.drop_eq_nil_iff.2 (by omega)
              rw [hd0, nestD] at hr
              obtain ⟨yk, yn, yt, ya2, yl2, yc2, za2, zf2, zc2, hcs⟩ := hr.cells5
              simp only [List.cons.injEq, and_true] at hcs
              obtain ⟨rfl, rfl, rfl, rfl, rfl⟩ := hcs
              have q3 := hid ((hb.out.block _ (lt_of_block RO.out)).trans RO.out)
              have hr2 := hid (hr.keep (S' := Now wr) (fun c hc => Nat.lt_of_lt_of_le hc hb.out.size) (fun _ _ => rfl))
              clear hr hd0
              have a0 := box_at (j := 0) q8.out rfl
              have a1 := box_at (j := 1) q8.out rfl
              have a2 := box_at (j := 2) q8.out rfl
              have a3 := box_at (j := 3) q8.out rfl
              have a4 := box_at (j := 4) q8.out rfl
              have b0 := box_at (j := 0) q3.out rfl
              have b1 := box_at (j := 1) q3.out rfl
              have b2 := box_at (j := 2) q3.out rfl
              have b3 := box_at (j := 3) q3.out rfl
              have b4 := box_at (j := 4) q3.out rfl
              go_wp2_with fail
              refine (hsm.out X0 _ _ _ hr2.out (XO.out.later hb.out)).mono ?_
              rintro e wf ⟨rfl, hf⟩
              clear a0 a1 a2 a3 a4 b0 b1 b2 b3 b4
              go_wp2_with fail
              go_ret
              exact ⟨rfl, DO.out.step (hb.out.step hf)⟩
        · obtain rfl : SV = zeroP := hbad.out hSE
          have a8_0 := box_at (j := 0) r8.out rfl
          have a8_1 := box_at (j := 1) r8.out rfl
          have a8_2 := box_at (j := 2) r8.out rfl
          have a8_3 := box_at (j := 3) r8.out rfl
          have a8_4 := box_at (j := 4) r8.out rfl
          go_wp2_with fail
          refine (hze.out _ _ xx.out).mono ?_
          rintro e w7 ⟨rfl, N0⟩
          clear a8_0 a8_1 a8_2 a8_3 a8_4
          have N := hid N0
          clear N0
          replace D := hid (D.out.step N.out)
          replace r3 := hid ((N.out.block _ (lt_of_block r3.out)).trans r3.out)
          replace r7 := hid ((N.out.block _ (lt_of_block r7.out)).trans r7.out)
          replace r8 := hid ((N.out.block _ (lt_of_block r8.out)).trans r8.out)
          replace xU := hid (xU.out.later N.out)
          replace xN := hid (xN.out.later N.out)
          replace xx := hid (xx.out.later N.out)
          clear N
          go_wp2_with fail
          go_ret
          exact ⟨rfl, D.out⟩
      · clear hgo
        have hpa : pa.size < 4294967281 := by have : j * 1048577 ≤ 8 * 1048577 := Nat.mul_le_mul_right _ hj8; omega
        have hsc := hid (hst.out pa hpa)
        have hsq := hid (hsp.out pa hpa)
        have hbad : Hid ((setP docE pa X0).2 ≠ 0 → (setP docE pa X0).1 = zeroP) := fun h => done_bad h
        have hmsv : Hid ((setP docE pa X0).1.mass ≤ 1000000000000) := by have := set_mass (M := 33554432) (v := docE) (x := X0) (p := pa) (by omega) (by rw [mass_docE]; omega) hmX; show _ ≤ _; omega
        have hdeep : Hid ((setP docE pa X0).2 = 0 → ∃ l, stepsP pa = some l ∧ (setP docE pa X0).1 = nestD l X0) := fun h => deep_law h
        clear hst hsp
        obtain ⟨SR, hSR⟩ : ∃ R, R = setP docE pa X0 := ⟨_, rfl⟩
        rw [← hSR] at hsc hbad hdeep hmsv
        obtain ⟨SV, SE⟩ := SR
        simp only at hsc hbad hdeep hmsv
        clear hSR hb hps hj8 hg hlim
        go_upto_region 13 with fail
        obtain ⟨w4, hw_⟩ : ∃ x, x = wr.alloc (.cells #[.int .i64 6, .int .i64 0, .string ⟨#[]⟩, .slice none 0 0, .slice none 0 0] 25) := ⟨_, rfl⟩
        have N : Hid (Below wr.heap.size wr w4) := by show Below _ _ _; rw [hw_]; exact below_new _ _
        have r7_ : Hid (w4.heap[wr.heap.size]? = some (.cells #[.int .i64 6, .int .i64 0, .string ⟨#[]⟩, .slice none 0 0, .slice none 0 0] 25 (0, 0))) := by show _ = _; rw [hw_]; exact heap_alloc_new _ _
        rw [← hw_]
        clear hw_
        replace D := hid (D.out.step N.out)
        replace r3 := hid ((N.out.block _ (lt_of_block r3.out)).trans r3.out)
        replace xU := hid (xU.out.later N.out)
        replace xN := hid (xN.out.later N.out)
        clear N
        have r7 := r7_
        clear r7_
        have a7_0 := box_at (j := 0) r7.out rfl
        have a7_1 := box_at (j := 1) r7.out rfl
        have a7_2 := box_at (j := 2) r7.out rfl
        have a7_3 := box_at (j := 3) r7.out rfl
        have a7_4 := box_at (j := 4) r7.out rfl
        have a3_0 := box_at (j := 0) r3.out rfl
        have a3_1 := box_at (j := 1) r3.out rfl
        have a3_2 := box_at (j := 2) r3.out rfl
        have a3_3 := box_at (j := 3) r3.out rfl
        have a3_4 := box_at (j := 4) r3.out rfl
        go_wp2_with fail
        refine (hsc.out _ _ _ D.out rd_docE xU.out).mono ?_
        rintro e w5 ⟨cs_, rfl, N0, xx_⟩
        clear a7_0 a7_1 a7_2 a7_3 a7_4 a3_0 a3_1 a3_2 a3_3 a3_4
        obtain ⟨xk, xn, xt, ya, xl, yc, za, xf, zc, rfl⟩ := xx_.cells5
        replace xx_ := hid xx_.now_free
        have N := hid N0
        clear N0
        replace D := hid (D.out.step N.out)
        replace r3 := hid ((N.out.block _ (lt_of_block r3.out)).trans r3.out)
        replace r7 := hid ((N.out.block _ (lt_of_block r7.out)).trans r7.out)
        replace xU := hid (xU.out.later N.out)
        replace xN := hid (xN.out.later N.out)
        have xx := xx_
        clear xx_
        clear N
        have DO := D
        have XO := xU
        have RO := r3
        have xz := hid xx.out
        have hms : Hid (SV.mass ≤ 1000000000000) := hmsv.out
        go_upto_region 14 with fail
        obtain ⟨w6, hw_⟩ : ∃ x, x = w5.alloc (.cells #[.int .i64 xk, .int .i64 xn, .string xt, .slice ya xl yc, .slice za xf zc] 25) := ⟨_, rfl⟩
        have N : Hid (Below w5.heap.size w5 w6) := by show Below _ _ _; rw [hw_]; exact below_new _ _
        have r8_ : Hid (w6.heap[w5.heap.size]? = some (.cells #[.int .i64 xk, .int .i64 xn, .string xt, .slice ya xl yc, .slice za xf zc] 25 (0, 0))) := by show _ = _; rw [hw_]; exact heap_alloc_new _ _
        rw [← hw_]
        clear hw_
        replace D := hid (D.out.step N.out)
        replace r3 := hid ((N.out.block _ (lt_of_block r3.out)).trans r3.out)
        replace r7 := hid ((N.out.block _ (lt_of_block r7.out)).trans r7.out)
        replace xU := hid (xU.out.later N.out)
        replace xN := hid (xN.out.later N.out)
        replace xx := hid (xx.out.later N.out)
        have B8 := N
        clear N
        have r8 := r8_
        clear r8_
        by_cases hSE : SE = 0
        · subst hSE
          obtain ⟨ll, hll, hnest⟩ := hdeep.out rfl
          clear hdeep hbad
          have h78_ := hid (lt_of_block r8.out)
          go_wp2_with fail
          refine (hsq.out _ D.out).mono ?_
          rintro e w7 ⟨N0, hs_⟩
          rw [hll] at hs_
          obtain ⟨vl, rfl, ys_⟩ := hs_
          obtain ⟨sa, sc, rfl, hb1, hb2, _⟩ := id ys_
          have hla : ll.length ≤ 9223372036854775807 := Nat.le_trans hb1 hb2
          clear hb1 hb2
          have N := hid N0
          clear N0
          replace D := hid (D.out.step N.out)
          replace r3 := hid ((N.out.block _ (lt_of_block r3.out)).trans r3.out)
          replace r7 := hid ((N.out.block _ (lt_of_block r7.out)).trans r7.out)
          replace r8 := hid ((N.out.block _ (lt_of_block r8.out)).trans r8.out)
          replace xU := hid (xU.out.later N.out)
          replace xN := hid (xN.out.later N.out)
          replace xx := hid (xx.out.later N.out)
          replace B8 := hid (B8.out.step N.out)
          clear N
          have hSVn : SV.nodes ≤ 1000000000000 := by have := nodes_mass SV; have := hms.out; omega
          have hXn : X0.nodes ≤ 1000000000000 := by omega
          have hc1 := nestD_count X0 ll
          have hd1 := nestD_depth X0 ll
          have hcX := count_le_nodes X0
          have hdX := depth_le_nodes X0
          have hcS := count_le_nodes SV
          have hdS := depth_le_nodes SV
          rw [← hnest] at hc1 hd1
          have qc := hid (fun (p : Later w7) => hct.out SV hSVn p.x _ (xx.out.later p.h))
          have qd := hid (fun (p : Later w7) => hdp.out SV hSVn p.x _ (xx.out.later p.h))
          have qc2 := hid (fun (p : Later w7) => hct.out X0 hXn p.x _ (xU.out.later p.h))
          have qd2 := hid (fun (p : Later w7) => hdp.out X0 hXn p.x _ (xU.out.later p.h))
          generalize SV.count = CS at *
          generalize SV.depth = DS at *
          generalize X0.count = CX at *
          generalize X0.depth = DX at *
          have ec : IntKind.i64.wrap ((ll.length : Int) + (CX : Int)) = (CS : Int) := by rw [IntWalk.i64_in _ (by omega)]; omega
          have ed : IntKind.i64.wrap ((ll.length : Int) + (DX : Int)) = (DS : Int) := by rw [IntWalk.i64_in _ (by omega)]; omega
          replace hc1 := hid hc1
          replace hd1 := hid hd1
          have a0 := Later.cell (box_at (j := 0) r8.out rfl)
          have a1 := Later.cell (box_at (j := 1) r8.out rfl)
          have a2 := Later.cell (box_at (j := 2) r8.out rfl)
          have a3 := Later.cell (box_at (j := 3) r8.out rfl)
          have a4 := Later.cell (box_at (j := 4) r8.out rfl)
          have b0 := Later.cell (box_at (j := 0) r3.out rfl)
          have b1 := Later.cell (box_at (j := 1) r3.out rfl)
          have b2 := Later.cell (box_at (j := 2) r3.out rfl)
          have b3 := Later.cell (box_at (j := 3) r3.out rfl)
          have b4 := Later.cell (box_at (j := 4) r3.out rfl)
          go_upto_region 17 with fail
          refine wp_later (by kernel_rfl) (by kernel_rfl) ?_
          iterate 8 (go_big_quiet_step ((go_at_call 19; exact later_calls _ (qc.out _))))
          iterate 6 (go_big_quiet_step ((go_at_call 19; exact later_calls _ (qc2.out _))))
          iterate 4 (go_big_quiet_step ((go_at_call 20; exact later_calls _ (qd.out _))))
          repeat (go_big_quiet_step ((go_at_call 20; exact later_calls _ (qd2.out _))))
          refine wpQuiet_nil ?_
          rintro _ ⟨q, rfl⟩
          obtain ⟨wq, hq⟩ := q
          clear a0 a1 a2 a3 a4 b0 b1 b2 b3 b4 qc qd qc2 qd2 ec ed hc1 hd1 hcX hdX hcS hdS hct hdp
          have N := hid hq
          replace D := hid (D.out.step N.out)
          replace r3 := hid ((N.out.block _ (lt_of_block r3.out)).trans r3.out)
          replace r7 := hid ((N.out.block _ (lt_of_block r7.out)).trans r7.out)
          replace r8 := hid ((N.out.block _ (lt_of_block r8.out)).trans r8.out)
          replace xU := hid (xU.out.later N.out)
          replace xN := hid (xN.out.later N.out)
          replace xx := hid (xx.out.later N.out)
          replace B8 := hid (B8.out.step N.out)
          have ys := hid (ys_.keep (w' := wq) (fun _ h => h) (fun b hb => N.out.block b hb.2))
          have hqs : Hid (w7.heap.size ≤ wq.heap.size) := N.out.size
          clear ys_ N
          simp only
          go_wp2_with fail
          have x8 : Hid (Rd wq (Now w5) SV [.int .i64 xk, .int .i64 xn, .string xt, .slice ya xl yc, .slice za xf zc]) := xz.out.keep (fun _ h => h) (fun b hb => B8.out.block b hb)
          rw [hnest] at x8
          have h78 : Hid (w5.heap.size < w6.heap.size) := h78_.out
          clear xz xx hnest
          go_loopg [12] ll.length (fun g i wz => ∃ (j : Nat) (v0 v1 v2 v3 v4 : Value), g + j = ll.length ∧ i = .int .i64 j ∧ wz.heap[w5.heap.size]? = some (.cells #[v0, v1, v2, v3, v4] 25 (0, 0)) ∧ Rd wz (Now w5) (nestD (ll.drop j) X0) [v0, v1, v2, v3, v4] ∧ StrsAt wz (From w6.heap.size w7) ll (.slice sa ll.length sc) ∧ Below w5.heap.size w5 wz ∧ w7.heap.size ≤ wz.heap.size)
          case atStart => exact ⟨0, _, _, _, _, _, by omega, rfl, r8.out, by rw [List.drop_zero]; exact x8.out, ys.out, B8.out, hqs.out⟩
          case round =>
            clear D xU xN r3 r7 r8 x8 ys B8 hqs
            obtain ⟨j2, v0, v1, v2, v3, v4, hg2, rfl, q8, hr, hys, hb, hws⟩ := hrel
            replace hws := hid hws
            replace hb := hid hb
            replace q8 := hid q8
            replace hys := hid hys
            by_cases hlt : j2 < ll.length
            · obtain ⟨s, hs⟩ : ∃ s, ll[j2]? = some s := ⟨_, List.getElem?_eq_getElem hlt⟩
              have hdr : ll.drop j2 = s :: ll.drop (j2 + 1) := by rw [List.drop_eq_getElem_cons hlt, (List.getElem?_eq_some_iff.1 hs).2]
              rw [hdr, nestD] at hr
              obtain ⟨la2, lc2, fa2, fc2, hcs, _, _, _, _, _, _, _, _, hF⟩ := (show Rd wr (Now w5) (.mk 6 0 ByteArray.empty [] [s] [nestD (ll.drop (j2 + 1)) X0]) _ from hr).inv
              simp only [List.cons.injEq, and_true] at hcs
              obtain ⟨rfl, rfl, rfl, rfl, rfl⟩ := hcs
              obtain ⟨b, off, ys5, rfl, hSb, hc, hrY, _⟩ := hF.at_ (i := 0) rfl rfl
              obtain ⟨yk, yn, yt, ya2, yl2, yc2, za2, zf2, zc2, rfl⟩ := hrY.cells5
              obtain ⟨c0, c1, c2, c3, c4, c5⟩ := six hc
              simp only [Nat.zero_mul, Nat.add_zero] at c0 c1 c2 c3 c4 c5
              obtain ⟨b1, o1, rfl, k1⟩ := hys.out.at_ hs
              have e1 : IntKind.i64.wrap ((j2 : Int) + 1) = (j2 : Int) + 1 := by rw [IntWalk.i64_in _ (by omega)]
              replace hrY := hid hrY
              have a0 := box_at (j := 0) q8.out rfl
              have a1 := box_at (j := 1) q8.out rfl
              have a2 := box_at (j := 2) q8.out rfl
              have a3 := box_at (j := 3) q8.out rfl
              have a4 := box_at (j := 4) q8.out rfl
              have f0 := box_free q8.out
              clear hs hdr hr hF hc hSb
              simp only [List.length_cons, List.length_nil] at a3 a4
              go_wp2_with fail
              go_quiet (fail)
              go_wp2_with fail
              clear a0 a1 a2 a3 a4 c0 c1 c2 c3 c4 c5 k1 f0
              have N2 := hid (below_drewN (Below.refl wr.heap.size wr) nq)
              have q8d := hid ((N2.out.block _ (lt_of_block q8.out)).trans q8.out)
              have hbd := hid (below_drewN hb.out nq)
              have hbz := hid (set5_below hbd.out (Nat.le_refl _) (.int .i64 yk) (.int .i64 yn) (.string yt) (.slice ya2 yl2 yc2) (.slice za2 zf2 zc2))
              have rz := hid (set5_box (u0 := .int .i64 yk) (u1 := .int .i64 yn) (u2 := .string yt) (u3 := .slice ya2 yl2 yc2) (u4 := .slice za2 zf2 zc2) q8d.out)
              have hkp := hid (fun b (hb : b ≠ w5.heap.size) => set5_other (wr.drewN nq) (w5.heap.size) (.int .i64 yk) (.int .i64 yn) (.string yt) (.slice ya2 yl2 yc2) (.slice za2 zf2 zc2) (b := b) hb)
              have hsz9 := hid (set5_size (wr.drewN nq) (w5.heap.size) (.int .i64 yk) (.int .i64 yn) (.string yt) (.slice ya2 yl2 yc2) (.slice za2 zf2 zc2))
              unfold set5 at hbz rz hkp hsz9
              generalize (((((wr.drewN nq).setCell ⟨w5.heap.size, 0, none⟩ (.int .i64 yk)).setCell ⟨w5.heap.size, 1, none⟩ (.int .i64 yn)).setCell ⟨w5.heap.size, 2, none⟩ (.string yt)).setCell ⟨w5.heap.size, 3, none⟩ (.slice ya2 yl2 yc2)).setCell ⟨w5.heap.size, 4, none⟩ (.slice za2 zf2 zc2) = w9 at *
              go_roundg (ll.length - (j2 + 1))
              case measure => omega
              case rel => exact ⟨j2 + 1, _, _, _, _, _, by omega, by go_num, rz.out, hrY.out.keep (fun _ h => h) (fun c hc => (hkp.out c (by have : c < w5.heap.size := hc; omega)).trans (N2.out.block c (Nat.lt_of_lt_of_le hc hb.out.size))), hys.out.keep (fun _ h => h) (fun c hc => (hkp.out c (by have := hc.1; have := h78.out; omega)).trans (N2.out.block c (Nat.lt_of_lt_of_le hc.2 hws.out))), hbz.out, by rw [hsz9.out]; exact Nat.le_trans hws.out N2.out.size⟩
            · have hd0 : ll.drop j2 = [] := List.drop_eq_nil_iff.2 (by omega)
              rw [hd0, nestD] at hr
              obtain ⟨yk, yn, yt, ya2, yl2, yc2, za2, zf2, zc2, hcs⟩ := hr.cells5
              simp only [List.cons.injEq, and_true] at hcs
              obtain ⟨rfl, rfl, rfl, rfl, rfl⟩ := hcs
              have q3 := hid ((hb.out.block _ (lt_of_block RO.out)).trans RO.out)
              have hr2 := hid (hr.keep (S' := Now wr) (fun c hc => Nat.lt_of_lt_of_le hc hb.out.size) (fun _ _ => rfl))
              clear hr hd0
              have a0 := box_at (j := 0) q8.out rfl
              have a1 := box_at (j := 1) q8.out rfl
              have a2 := box_at (j := 2) q8.out rfl
              have a3 := box_at (j := 3) q8.out rfl
              have a4 := box_at (j := 4) q8.out rfl
              have b0 := box_at (j := 0) q3.out rfl
              have b1 := box_at (j := 1) q3.out rfl
              have b2 := box_at (j := 2) q3.out rfl
              have b3 := box_at (j := 3) q3.out rfl
              have b4 := box_at (j := 4) q3.out rfl
              go_wp2_with fail
              refine (hsm.out X0 _ _ _ hr2.out (XO.out.later hb.out)).mono ?_
              rintro e wf ⟨rfl, hf⟩
              clear a0 a1 a2 a3 a4 b0 b1 b2 b3 b4
              go_wp2_with fail
              go_ret
              exact ⟨rfl, DO.out.step (hb.out.step hf)⟩
        · obtain rfl : SV = zeroP := hbad.out hSE
          have a8_0 := box_at (j := 0) r8.out rfl
          have a8_1 := box_at (j := 1) r8.out rfl
          have a8_2 := box_at (j := 2) r8.out rfl
          have a8_3 := box_at (j := 3) r8.out rfl
          have a8_4 := box_at (j := 4) r8.out rfl
          go_wp2_with fail
          refine (hze.out _ _ xx.out).mono ?_
          rintro e w7 ⟨rfl, N0⟩
          clear a8_0 a8_1 a8_2 a8_3 a8_4
          have N := hid N0
          clear N0
          replace D := hid (D.out.step N.out)
          replace r3 := hid ((N.out.block _ (lt_of_block r3.out)).trans r3.out)
          replace r7 := hid ((N.out.block _ (lt_of_block r7.out)).trans r7.out)
          replace r8 := hid ((N.out.block _ (lt_of_block r8.out)).trans r8.out)
          replace xU := hid (xU.out.later N.out)
          replace xN := hid (xN.out.later N.out)
          replace xx := hid (xx.out.later N.out)
          clear N
          go_wp2_with fail
          go_ret
          exact ⟨rfl, D.out⟩
end Go.Proofs.YthjihdpleclejaaDoor
