/-
  Walk: the law KeySingle.
-/
import Derived.Test.YtihcegakghmdfaaDoorMgKey13
import Derived.Test.YtihcegakghmdfaaDoorMgKr5f
import Derived.Test.YtihcegakghmdfaaDoorMgLaid
import Derived.Test.YtihcegakghmdfaaDoorMgVal19
namespace Go.Proofs.YtihcegakghmdfaaDoor
open Go.RowKit Go.Proofs

set_option maxRecDepth 100000 in
theorem zero5_calls (V : PVal) (R : Bool) (hR : R = true ↔ V = zeroK) (w : World) (cs : List Value) (hV : Rd w (Now w) V cs) :
    Calls Tryd.prog 24 #[.agg cs.toArray] w fun e w' => e = .returned (.bool R) ∧ Below w.heap.size w w' := by
  have hs := hid (fun w cs cs' => same_calls V zeroK R hR w cs cs')
  have hV0 := hid hV
  clear hR
  obtain ⟨k, n, s, l, fn, fv⟩ := V
  obtain ⟨la, lc, fa, fc, rfl, _⟩ := hV.inv
  clear hV
  have hB0 := hid (below_new w (.cells #[.int .i64 k, .int .i64 n, .string s, .slice la l.length lc, .slice fa fv.length fc] 25))
  go_enter Tryd.func24, Tryd.ntmps24
  go_wp2_with fail
  refine (hs.out _ _ _ (hV0.out.later hB0.out) rd_zeroK).mono ?_
  rintro e w1 ⟨rfl, h1⟩
  go_wp2_with fail
  go_ret
  exact ⟨rfl, hB0.out.step h1⟩
theorem rdL_form6 {w : World} {S : Nat → Prop} {xs : List PVal} {v : Value} (h : RdL w S xs v) : ∃ a c, v = .slice a xs.length c ∧ xs.length ≤ c := by
  obtain ⟨a, c, _, h0, h1, _⟩ := h
  exact ⟨a, c, h0, h1⟩
/-- What the law's last region reads. -/
def SaS (A B o : Nat) (a0 a1 a2 a3 a4 b0 b1 b2 b3 b4 : Value) (x : World) : Prop :=
  x.cell? ⟨A, 0, none⟩ = some a0 ∧ x.cell? ⟨A, 1, none⟩ = some a1 ∧ x.cell? ⟨A, 2, none⟩ = some a2 ∧ x.cell? ⟨A, 3, none⟩ = some a3 ∧ x.cell? ⟨A, 4, none⟩ = some a4 ∧ x.cell? ⟨B, o, none⟩ = some b0 ∧ x.cell? ⟨B, o + 1, none⟩ = some b1 ∧ x.cell? ⟨B, o + 2, none⟩ = some b2 ∧ x.cell? ⟨B, o + 3, none⟩ = some b3 ∧ x.cell? ⟨B, o + 4, none⟩ = some b4

set_option maxRecDepth 100000 in
set_option maxHeartbeats 4000000 in
theorem single_calls (V : PVal) (hm : V.mass ≤ 1073741824) {w : World} {cs : List Value} {bv : Value} {l : List UInt8} (hT : Tabs w) (hV : Rd w (Now w) V cs) (hb : BytesAt w (Now w) l bv) (hl : l.length ≤ 33554432) :
    Calls Tryd.prog 3 #[.agg cs.toArray, bv] w fun e w' => e = .returned (.bool true) ∧ Below w.heap.size w w' := by
  have hT := hid (fun w' hb => Tabs.stays w w' hT hb)
  have hV0 := hid hV
  have hb0 := hid hb
  have haw := hid awake5_calls
  have hva := hid (fun la c' w h => vast_calls [V] la c' w h (by simp))
  have hof := hid (fun w cs hT h => of_calls V (by omega) w cs hT h)
  have hbk := hid (fun (w' : World) (h : Below w.heap.size w w') => back_tells (hb0.out.later h) (hT.out w' h) (by omega))
  have hgd := hid (fun w cs h => rgood_mass V hm w cs h)
  have hrs := hid (fun (w' : World) (h : Below w.heap.size w w') => rsplit5_calls (hb0.out.later h) hl 1 (by omega))
  have hro := hid (fun h1 w cs h => rof5_calls V w cs (by have := key_le V; omega) h1 h)
  have hsm := hid (fun (V : PVal) w cs cs' h h' => same_calls V V true (by simp) w cs cs' h h')
  have hze := hid (fun w cs h => zero5_calls zeroK true (by simp) w cs h)
  have hfm := hid (fun (h : V.good = 0) => (good_form h).1)
  rw [← split_same l 1 (by omega)] at hrs
  have hln := hid (fun xs h => splitP_len (l := l) (n := 1) (xs := xs) h)
  obtain ⟨R, hR⟩ : ∃ R, R = splitP l 1 := ⟨_, rfl⟩
  rw [← hR] at hrs hbk hln
  clear hR
  obtain ⟨V3, hV3⟩ : ∃ V3, V3 = theOne R := ⟨_, rfl⟩
  obtain ⟨e3, he3⟩ : ∃ e3, e3 = err4 R := ⟨_, rfl⟩
  rw [← hV3, ← he3] at hbk
  replace hV3 := hid hV3
  replace he3 := hid he3
  unfold Oft at hof
  obtain ⟨G, hG⟩ : ∃ G, G = V.good := ⟨_, rfl⟩
  rw [← hG] at hof hgd hfm
  obtain ⟨K, hK⟩ : ∃ K, K = V.key := ⟨_, rfl⟩
  rw [← hK] at hof hro
  obtain ⟨J, hJ⟩ : ∃ J, J = (if G = 0 then K else []) := ⟨_, rfl⟩
  rw [← hJ] at hof
  replace hJ := hid hJ
  clear hG hK
  obtain ⟨ba, bc, rfl, _⟩ := id hb
  clear hb hm
  obtain ⟨k, n, s, vl, fn, fv⟩ := V
  obtain ⟨la, lc, fa, fc, rfl, _⟩ := hV.inv
  clear hV
  generalize vast [PVal.mk k n s vl fn fv] = T at *
  have D0 := hid (below_new w (.cells #[.int .i64 k, .int .i64 n, .string s, .slice la vl.length lc, .slice fa fv.length fc] 25))
  have r2 := hid (heap_alloc_new w (.cells #[.int .i64 k, .int .i64 n, .string s, .slice la vl.length lc, .slice fa fv.length fc] 25))
  go_enter Tryd.func3, Tryd.ntmps3
  go_upto_region 1 with fail
  obtain ⟨w0, hw0⟩ : ∃ w0, w0 = w.alloc (.cells #[.int .i64 k, .int .i64 n, .string s, .slice la vl.length lc, .slice fa fv.length fc] 25) := ⟨_, rfl⟩
  rw [← hw0] at D0 r2 ⊢
  clear hw0
  have a0 := box_at (j := 0) r2.out rfl
  have a1 := box_at (j := 1) r2.out rfl
  have a2 := box_at (j := 2) r2.out rfl
  have a3 := box_at (j := 3) r2.out rfl
  have a4 := box_at (j := 4) r2.out rfl
  go_wp2_with fail
  refine (hva.out (some ⟨w0.heap.size, 0, none⟩) 1 _ (rdL_block (css := [[.int .i64 k, .int .i64 n, .string s, .slice la vl.length lc, .slice fa fv.length fc]]) rfl rfl rfl (one_rd (hV0.out.later (D0.out.step (below_new _ _)))) (blk_new rfl) (by simp))).mono ?_
  rintro e w1 ⟨rfl, h1⟩
  have N1 := hid ((below_new w0 (.cells #[.int .i64 k, .int .i64 n, .string s, .slice la vl.length lc, .slice fa fv.length fc] 25)).step h1)
  have D1 := hid (D0.out.step N1.out)
  have q1 := hid ((N1.out.block _ (lt_of_block r2.out)).trans r2.out)
  clear h1 N1 a0 a1 a2 a3 a4
  cases T with
  | true =>
    go_wp2_with fail
    go_ret
    exact ⟨rfl, D1.out⟩
  | false =>
  have a0 := box_at (j := 0) q1.out rfl
  have a1 := box_at (j := 1) q1.out rfl
  have a2 := box_at (j := 2) q1.out rfl
  have a3 := box_at (j := 3) q1.out rfl
  have a4 := box_at (j := 4) q1.out rfl
  go_wp2_with fail
  refine (hof.out _ _ (hT.out _ D1.out) (hV0.out.later D1.out)).mono ?_
  rintro e w2 ⟨v2, rfl, ho2⟩
  have D2 := hid (D1.out.step ho2.1)
  have q2 := hid ((ho2.1.block _ (lt_of_block q1.out)).trans q1.out)
  have x2 := hid (ho2.bytes.keep (fun b hb => hb.2) (fun _ _ => rfl) : BytesAt w2 (Now w2) J v2)
  clear ho2 a0 a1 a2 a3 a4 r2 q1
  obtain ⟨j2, c2, rfl, _⟩ := id x2.out
  go_wp2_with fail
  refine (hbk.out _ D2.out).mono ?_
  rintro e w3 ⟨cs3, rfl, h3, r3, _⟩
  obtain ⟨xk, xn, xt, xl, xfn, xfv⟩ := V3
  obtain ⟨ya, yc, za, zc, rfl, _⟩ := r3.inv
  have E4 := hid (h3.step (below_new w3 (.cells #[.int .i64 xk, .int .i64 xn, .string xt, .slice ya xl.length yc, .slice za xfv.length zc] 25)))
  have r7 := hid (heap_alloc_new w3 (.cells #[.int .i64 xk, .int .i64 xn, .string xt, .slice ya xl.length yc, .slice za xfv.length zc] 25))
  have X4 : Hid (Rd (w3.alloc (.cells #[.int .i64 xk, .int .i64 xn, .string xt, .slice ya xl.length yc, .slice za xfv.length zc] 25)) (Now (w3.alloc (.cells #[.int .i64 xk, .int .i64 xn, .string xt, .slice ya xl.length yc, .slice za xfv.length zc] 25))) (.mk xk xn xt xl xfn xfv) [.int .i64 xk, .int .i64 xn, .string xt, .slice ya xl.length yc, .slice za xfv.length zc]) := (r3.keep (fun b hb => hb.2) (fun _ _ => rfl) : Rd w3 (Now w3) _ _).later (below_new _ _)
  clear h3 r3
  go_upto_region 5 with fail
  have hg7 : Hid (w3.heap.size < (w3.alloc (.cells #[.int .i64 xk, .int .i64 xn, .string xt, .slice ya xl.length yc, .slice za xfv.length zc] 25)).heap.size) := by show _ < _; simp
  obtain ⟨w4, hw4⟩ : ∃ w4, w4 = w3.alloc (.cells #[.int .i64 xk, .int .i64 xn, .string xt, .slice ya xl.length yc, .slice za xfv.length zc] 25) := ⟨_, rfl⟩
  rw [← hw4] at E4 r7 X4 hg7 ⊢
  clear hw4
  have D4 := hid (D2.out.step E4.out)
  have q4 := hid ((E4.out.block _ (lt_of_block q2.out)).trans q2.out)
  have a0 := box_at (j := 0) q4.out rfl
  have a1 := box_at (j := 1) q4.out rfl
  have a2 := box_at (j := 2) q4.out rfl
  have a3 := box_at (j := 3) q4.out rfl
  have a4 := box_at (j := 4) q4.out rfl
  go_wp2_with fail
  refine (hgd.out _ _ (hV0.out.later D4.out)).mono ?_
  rintro e w5 ⟨rfl, h5⟩
  have D5 := hid (D4.out.step h5)
  replace h5 := hid h5
  clear a0 a1 a2 a3 a4
  go_wp2_with fail
  refine (hrs.out _ D5.out).mono ?_
  rintro e w6 ⟨h6, hR6⟩
  have D6 := hid (D5.out.step h6)
  have E6 := hid (h5.out.step h6)
  have q6 := hid ((E6.out.block _ (lt_of_block q4.out)).trans q4.out)
  have x6 := hid (x2.out.later (E4.out.step E6.out))
  have X6 := hid (X4.out.later E6.out)
  have r76 := hid ((E6.out.block _ (lt_of_block r7.out)).trans r7.out)
  clear h5 h6 x2 X4 r7 q4 q2 E4 E6
  cases R with
  | none =>
    simp only at hR6
    subst hR6
    obtain rfl : e3 = 4 := he3.out
    have hze3 := hid (fun w cs h => zero5_calls (.mk xk xn xt xl xfn xfv) true ⟨fun _ => hV3.out, fun _ => rfl⟩ w cs h)
    clear hV3 he3 hln hsm hze
    by_cases hg : G = 0
    · subst hg
      have hJK : J = K := hJ.out.trans (if_pos rfl)
      subst hJK
      have hro' := hid (hro.out (hfm.out rfl))
      have hS : Hid (∀ x, Below w6.heap.size w6 x → (RsS w.heap.size (.int .i64 k) (.int .i64 n) (.string s) (.slice la vl.length lc) (.slice fa fv.length fc) (.slice j2 J.length c2) ⟨J.toArray⟩) x) := fun x h => rsS_mk q6.out h (conv_at (x6.out.later h))
      clear hro hfm
      go_upto_region 7 with fail
      refine wp_region_T (RsS w.heap.size (.int .i64 k) (.int .i64 n) (.string s) (.slice la vl.length lc) (.slice fa fv.length fc) (.slice j2 J.length c2) ⟨J.toArray⟩) 28 (by kernel_rfl) ?_
      have hS0 := hS.out _ (Below.refl w6.heap.size w6).drew
      refine wpAnyT_one (i := 0) (by kernel_rfl) rfl (fun K hK => ?_)
      go_simp
      refine (haw.out _ (hT.out _ D6.out.drew)).mono ?_
      rintro e wA ⟨rfl, hA⟩
      have E1 := hid ((Below.refl w6.heap.size w6).drew.step hA)
      clear hA hS0
      have hS1 := hS.out _ E1.out
      (refine hK.out _ _ (fun _ => hS1) (fun _ => ?_); clear hK K; (try simp only [Act.put, List.setIfInBounds_toArray, List.set_cons_zero, List.set_cons_succ]))
      ((refine wpAnyT_take (i := 1) (v := ?_) rfl (by kernel_rfl) (by kernel_rfl) (by kernel_rfl) (by kernel_rfl) (by exact fun _ _ _ h => h) (Or.inl ⟨by kernel_rfl, ?_⟩) hS1 ?_; rotate_left 1; focus (intro w hSw; unfold RsS at hSw; (try dsimp only at hSw); go_simp; try with_reducible rfl); (try simp only [List.getElem_toArray, List.getElem_cons_zero, List.getElem_cons_succ, Act.put, List.setIfInBounds_toArray, List.set_cons_zero, List.set_cons_succ])); (refine wpAnyT_take (i := 2) (v := ?_) rfl (by kernel_rfl) (by kernel_rfl) (by kernel_rfl) (by kernel_rfl) (by exact fun _ _ _ h => h) (Or.inl ⟨by kernel_rfl, ?_⟩) hS1 ?_; rotate_left 1; focus (intro w hSw; unfold RsS at hSw; (try dsimp only at hSw); go_simp; try with_reducible rfl); (try simp only [List.getElem_toArray, List.getElem_cons_zero, List.getElem_cons_succ, Act.put, List.setIfInBounds_toArray, List.set_cons_zero, List.set_cons_succ])); (refine wpAnyT_take (i := 3) (v := ?_) rfl (by kernel_rfl) (by kernel_rfl) (by kernel_rfl) (by kernel_rfl) (by exact fun _ _ _ h => h) (Or.inl ⟨by kernel_rfl, ?_⟩) hS1 ?_; rotate_left 1; focus (intro w hSw; unfold RsS at hSw; (try dsimp only at hSw); go_simp; try with_reducible rfl); (try simp only [List.getElem_toArray, List.getElem_cons_zero, List.getElem_cons_succ, Act.put, List.setIfInBounds_toArray, List.set_cons_zero, List.set_cons_succ])); (refine wpAnyT_take (i := 4) (v := ?_) rfl (by kernel_rfl) (by kernel_rfl) (by kernel_rfl) (by kernel_rfl) (by exact fun _ _ _ h => h) (Or.inl ⟨by kernel_rfl, ?_⟩) hS1 ?_; rotate_left 1; focus (intro w hSw; unfold RsS at hSw; (try dsimp only at hSw); go_simp; try with_reducible rfl); (try simp only [List.getElem_toArray, List.getElem_cons_zero, List.getElem_cons_succ, Act.put, List.setIfInBounds_toArray, List.set_cons_zero, List.set_cons_succ])); (refine wpAnyT_take (i := 5) (v := ?_) rfl (by kernel_rfl) (by kernel_rfl) (by kernel_rfl) (by kernel_rfl) (by exact fun _ _ _ h => h) (Or.inl ⟨by kernel_rfl, ?_⟩) hS1 ?_; rotate_left 1; focus (intro w hSw; unfold RsS at hSw; (try dsimp only at hSw); go_simp; try with_reducible rfl); (try simp only [List.getElem_toArray, List.getElem_cons_zero, List.getElem_cons_succ, Act.put, List.setIfInBounds_toArray, List.set_cons_zero, List.set_cons_succ])); (refine wpAnyT_take (i := 6) (v := ?_) rfl (by kernel_rfl) (by kernel_rfl) (by kernel_rfl) (by kernel_rfl) (by exact fun _ _ _ h => h) (Or.inl ⟨by kernel_rfl, ?_⟩) hS1 ?_; rotate_left 1; focus (intro w hSw; unfold RsS at hSw; (try dsimp only at hSw); go_simp; try with_reducible rfl); (try simp only [List.getElem_toArray, List.getElem_cons_zero, List.getElem_cons_succ, Act.put, List.setIfInBounds_toArray, List.set_cons_zero, List.set_cons_succ])); (refine wpAnyT_take (i := 7) (v := ?_) rfl (by kernel_rfl) (by kernel_rfl) (by kernel_rfl) (by kernel_rfl) (by exact fun _ _ _ h => h) (Or.inl ⟨by kernel_rfl, ?_⟩) hS1 ?_; rotate_left 1; focus (intro w hSw; unfold RsS at hSw; (try dsimp only at hSw); go_simp; try with_reducible rfl); (try simp only [List.getElem_toArray, List.getElem_cons_zero, List.getElem_cons_succ, Act.put, List.setIfInBounds_toArray, List.set_cons_zero, List.set_cons_succ])); (refine wpAnyT_take (i := 8) (v := ?_) rfl (by kernel_rfl) (by kernel_rfl) (by kernel_rfl) (by kernel_rfl) (by exact fun _ _ _ h => h) (Or.inl ⟨by kernel_rfl, ?_⟩) hS1 ?_; rotate_left 1; focus (intro w hSw; unfold RsS at hSw; (try dsimp only at hSw); go_simp; try with_reducible rfl); (try simp only [List.getElem_toArray, List.getElem_cons_zero, List.getElem_cons_succ, Act.put, List.setIfInBounds_toArray, List.set_cons_zero, List.set_cons_succ])); (refine wpAnyT_take (i := 9) (v := ?_) rfl (by kernel_rfl) (by kernel_rfl) (by kernel_rfl) (by kernel_rfl) (by exact fun _ _ _ h => h) (Or.inl ⟨by kernel_rfl, ?_⟩) hS1 ?_; rotate_left 1; focus (intro w hSw; unfold RsS at hSw; (try dsimp only at hSw); go_simp; try with_reducible rfl); (try simp only [List.getElem_toArray, List.getElem_cons_zero, List.getElem_cons_succ, Act.put, List.setIfInBounds_toArray, List.set_cons_zero, List.set_cons_succ])); (refine wpAnyT_take (i := 10) (v := ?_) rfl (by kernel_rfl) (by kernel_rfl) (by kernel_rfl) (by kernel_rfl) (by exact fun _ _ _ h => h) (Or.inl ⟨by kernel_rfl, ?_⟩) hS1 ?_; rotate_left 1; focus (intro w hSw; unfold RsS at hSw; (try dsimp only at hSw); go_simp; try with_reducible rfl); (try simp only [List.getElem_toArray, List.getElem_cons_zero, List.getElem_cons_succ, Act.put, List.setIfInBounds_toArray, List.set_cons_zero, List.set_cons_succ])))
      ((refine wpAnyT_take (i := 11) (v := _) rfl (by kernel_rfl) (by kernel_rfl) (by kernel_rfl) (by kernel_rfl) (by exact fun _ _ _ h => h) (Or.inr ⟨by kernel_rfl, rfl⟩) hS1 ?_; (try simp only [List.getElem_toArray, List.getElem_cons_zero, List.getElem_cons_succ, Act.put, List.setIfInBounds_toArray, List.set_cons_zero, List.set_cons_succ])); (refine wpAnyT_take (i := 12) (v := _) rfl (by kernel_rfl) (by kernel_rfl) (by kernel_rfl) (by kernel_rfl) (by exact fun _ _ _ h => h) (Or.inr ⟨by kernel_rfl, rfl⟩) hS1 ?_; (try simp only [List.getElem_toArray, List.getElem_cons_zero, List.getElem_cons_succ, Act.put, List.setIfInBounds_toArray, List.set_cons_zero, List.set_cons_succ])); (refine wpAnyT_take (i := 13) (v := _) rfl (by kernel_rfl) (by kernel_rfl) (by kernel_rfl) (by kernel_rfl) (by exact fun _ _ _ h => h) (Or.inr ⟨by kernel_rfl, rfl⟩) hS1 ?_; (try simp only [List.getElem_toArray, List.getElem_cons_zero, List.getElem_cons_succ, Act.put, List.setIfInBounds_toArray, List.set_cons_zero, List.set_cons_succ])))
      ((refine wpAnyT_take (i := 14) (v := ?_) rfl (by kernel_rfl) (by kernel_rfl) (by kernel_rfl) (by kernel_rfl) (by exact fun _ _ _ h => h) (Or.inl ⟨by kernel_rfl, ?_⟩) hS1 ?_; rotate_left 1; focus (intro w hSw; unfold RsS at hSw; (try dsimp only at hSw); go_simp; try with_reducible rfl); (try simp only [List.getElem_toArray, List.getElem_cons_zero, List.getElem_cons_succ, Act.put, List.setIfInBounds_toArray, List.set_cons_zero, List.set_cons_succ])); (refine wpAnyT_take (i := 15) (v := ?_) rfl (by kernel_rfl) (by kernel_rfl) (by kernel_rfl) (by kernel_rfl) (by exact fun _ _ _ h => h) (Or.inl ⟨by kernel_rfl, ?_⟩) hS1 ?_; rotate_left 1; focus (intro w hSw; unfold RsS at hSw; (try dsimp only at hSw); go_simp; try with_reducible rfl); (try simp only [List.getElem_toArray, List.getElem_cons_zero, List.getElem_cons_succ, Act.put, List.setIfInBounds_toArray, List.set_cons_zero, List.set_cons_succ])); (refine wpAnyT_take (i := 16) (v := ?_) rfl (by kernel_rfl) (by kernel_rfl) (by kernel_rfl) (by kernel_rfl) (by exact fun _ _ _ h => h) (Or.inl ⟨by kernel_rfl, ?_⟩) hS1 ?_; rotate_left 1; focus (intro w hSw; unfold RsS at hSw; (try dsimp only at hSw); go_simp; try with_reducible rfl); (try simp only [List.getElem_toArray, List.getElem_cons_zero, List.getElem_cons_succ, Act.put, List.setIfInBounds_toArray, List.set_cons_zero, List.set_cons_succ])); (refine wpAnyT_take (i := 17) (v := ?_) rfl (by kernel_rfl) (by kernel_rfl) (by kernel_rfl) (by kernel_rfl) (by exact fun _ _ _ h => h) (Or.inl ⟨by kernel_rfl, ?_⟩) hS1 ?_; rotate_left 1; focus (intro w hSw; unfold RsS at hSw; (try dsimp only at hSw); go_simp; try with_reducible rfl); (try simp only [List.getElem_toArray, List.getElem_cons_zero, List.getElem_cons_succ, Act.put, List.setIfInBounds_toArray, List.set_cons_zero, List.set_cons_succ])); (refine wpAnyT_take (i := 18) (v := ?_) rfl (by kernel_rfl) (by kernel_rfl) (by kernel_rfl) (by kernel_rfl) (by exact fun _ _ _ h => h) (Or.inl ⟨by kernel_rfl, ?_⟩) hS1 ?_; rotate_left 1; focus (intro w hSw; unfold RsS at hSw; (try dsimp only at hSw); go_simp; try with_reducible rfl); (try simp only [List.getElem_toArray, List.getElem_cons_zero, List.getElem_cons_succ, Act.put, List.setIfInBounds_toArray, List.set_cons_zero, List.set_cons_succ])); (refine wpAnyT_take (i := 19) (v := ?_) rfl (by kernel_rfl) (by kernel_rfl) (by kernel_rfl) (by kernel_rfl) (by exact fun _ _ _ h => h) (Or.inl ⟨by kernel_rfl, ?_⟩) hS1 ?_; rotate_left 1; focus (intro w hSw; unfold RsS at hSw; (try dsimp only at hSw); go_simp; try with_reducible rfl); (try simp only [List.getElem_toArray, List.getElem_cons_zero, List.getElem_cons_succ, Act.put, List.setIfInBounds_toArray, List.set_cons_zero, List.set_cons_succ])); (refine wpAnyT_take (i := 20) (v := ?_) rfl (by kernel_rfl) (by kernel_rfl) (by kernel_rfl) (by kernel_rfl) (by exact fun _ _ _ h => h) (Or.inl ⟨by kernel_rfl, ?_⟩) hS1 ?_; rotate_left 1; focus (intro w hSw; unfold RsS at hSw; (try dsimp only at hSw); go_simp; try with_reducible rfl); (try simp only [List.getElem_toArray, List.getElem_cons_zero, List.getElem_cons_succ, Act.put, List.setIfInBounds_toArray, List.set_cons_zero, List.set_cons_succ])); (refine wpAnyT_take (i := 21) (v := ?_) rfl (by kernel_rfl) (by kernel_rfl) (by kernel_rfl) (by kernel_rfl) (by exact fun _ _ _ h => h) (Or.inl ⟨by kernel_rfl, ?_⟩) hS1 ?_; rotate_left 1; focus (intro w hSw; unfold RsS at hSw; (try dsimp only at hSw); go_simp; try with_reducible rfl); (try simp only [List.getElem_toArray, List.getElem_cons_zero, List.getElem_cons_succ, Act.put, List.setIfInBounds_toArray, List.set_cons_zero, List.set_cons_succ])); (refine wpAnyT_take (i := 22) (v := ?_) rfl (by kernel_rfl) (by kernel_rfl) (by kernel_rfl) (by kernel_rfl) (by exact fun _ _ _ h => h) (Or.inl ⟨by kernel_rfl, ?_⟩) hS1 ?_; rotate_left 1; focus (intro w hSw; unfold RsS at hSw; (try dsimp only at hSw); go_simp; try with_reducible rfl); (try simp only [List.getElem_toArray, List.getElem_cons_zero, List.getElem_cons_succ, Act.put, List.setIfInBounds_toArray, List.set_cons_zero, List.set_cons_succ])))
      refine wpAnyT_one (i := 23) (by kernel_rfl) rfl (fun K hK => ?_)
      go_simp
      refine (hro'.out _ _ (hV0.out.later (D6.out.step E1.out))).mono ?_
      rintro e wF ⟨vF, rfl, gF, cF, rfl, hmF⟩
      have E2 := hid (E1.out.step hmF.below)
      have cvF := conv_buf (P := Tryd.prog) Tryd.underlying26 Tryd.underlying5 Tryd.underlying9 hmF
      clear hmF hS1
      have hS2 := hS.out _ E2.out
      (refine hK.out _ _ (fun _ => hS2) (fun _ => ?_); clear hK K; (try simp only [Act.put, List.setIfInBounds_toArray, List.set_cons_zero, List.set_cons_succ]))
      refine wpAnyT_one (i := 24) (by kernel_rfl) rfl (fun K hK => ?_)
      go_simp
      (refine hK.out _ _ (fun _ => hS2) (fun _ => ?_); clear hK K; (try simp only [Act.put, List.setIfInBounds_toArray, List.set_cons_zero, List.set_cons_succ]))
      clear cvF
      ((refine wpAnyT_take (i := 25) (v := ?_) rfl (by kernel_rfl) (by kernel_rfl) (by kernel_rfl) (by kernel_rfl) (by exact fun _ _ _ h => h) (Or.inl ⟨by kernel_rfl, ?_⟩) hS2 ?_; rotate_left 1; focus (intro w hSw; unfold RsS at hSw; (try dsimp only at hSw); go_simp; try with_reducible rfl); (try simp only [List.getElem_toArray, List.getElem_cons_zero, List.getElem_cons_succ, Act.put, List.setIfInBounds_toArray, List.set_cons_zero, List.set_cons_succ])); (refine wpAnyT_take (i := 26) (v := ?_) rfl (by kernel_rfl) (by kernel_rfl) (by kernel_rfl) (by kernel_rfl) (by exact fun _ _ _ h => h) (Or.inl ⟨by kernel_rfl, ?_⟩) hS2 ?_; rotate_left 1; focus (intro w hSw; unfold RsS at hSw; (try dsimp only at hSw); go_simp; try with_reducible rfl); (try simp only [List.getElem_toArray, List.getElem_cons_zero, List.getElem_cons_succ, Act.put, List.setIfInBounds_toArray, List.set_cons_zero, List.set_cons_succ])); (refine wpAnyT_take (i := 27) (v := ?_) rfl (by kernel_rfl) (by kernel_rfl) (by kernel_rfl) (by kernel_rfl) (by exact fun _ _ _ h => h) (Or.inl ⟨by kernel_rfl, ?_⟩) hS2 ?_; rotate_left 1; focus (intro w hSw; unfold RsS at hSw; (try dsimp only at hSw); go_simp; try with_reducible rfl); (try simp only [List.getElem_toArray, List.getElem_cons_zero, List.getElem_cons_succ, Act.put, List.setIfInBounds_toArray, List.set_cons_zero, List.set_cons_succ])))
      refine wpAnyT_done (by kernel_rfl) ?_ _
      clear hS2
      have r8 := hid ((E2.out.block _ (lt_of_block r76.out)).trans r76.out)
      have b0 := box_at (j := 0) r8.out rfl
      have b1 := box_at (j := 1) r8.out rfl
      have b2 := box_at (j := 2) r8.out rfl
      have b3 := box_at (j := 3) r8.out rfl
      have b4 := box_at (j := 4) r8.out rfl
      go_wp2_with fail
      refine (hze3.out _ _ (X6.out.later E2.out)).mono ?_
      rintro e w8 ⟨rfl, h8⟩
      go_wp2_with fail
      go_ret
      exact ⟨rfl, D6.out.step (E2.out.step h8)⟩
    · have hg1 : (G != 0) = true := by simp [hg]
      have hg2 : (G == 0) = false := by simp [hg]
      obtain rfl : J = [] := hJ.out.trans (if_neg hg)
      have hS : Hid (∀ x, Below w6.heap.size w6 x → (RsS w.heap.size (.int .i64 k) (.int .i64 n) (.string s) (.slice la vl.length lc) (.slice fa fv.length fc) (.slice j2 0 c2) ⟨(([] : List UInt8)).toArray⟩) x) := fun x h => rsS_mk q6.out h (conv_at (x6.out.later h))
      clear hro hfm
      go_upto_region 7 with fail
      refine wp_region_T (RsS w.heap.size (.int .i64 k) (.int .i64 n) (.string s) (.slice la vl.length lc) (.slice fa fv.length fc) (.slice j2 0 c2) ⟨(([] : List UInt8)).toArray⟩) 28 (by kernel_rfl) ?_
      have hS0 := hS.out _ (Below.refl w6.heap.size w6).drew
      refine wpAnyT_one (i := 0) (by kernel_rfl) rfl (fun K hK => ?_)
      go_simp
      refine (haw.out _ (hT.out _ D6.out.drew)).mono ?_
      rintro e wA ⟨rfl, hA⟩
      have E1 := hid ((Below.refl w6.heap.size w6).drew.step hA)
      clear hA hS0
      have hS1 := hS.out _ E1.out
      (refine hK.out _ _ (fun _ => hS1) (fun _ => ?_); clear hK K; (try simp only [Act.put, List.setIfInBounds_toArray, List.set_cons_zero, List.set_cons_succ]))
      ((refine wpAnyT_take (i := 1) (v := ?_) rfl (by kernel_rfl) (by kernel_rfl) (by kernel_rfl) (by kernel_rfl) (by exact fun _ _ _ h => h) (Or.inl ⟨by kernel_rfl, ?_⟩) hS1 ?_; rotate_left 1; focus (intro w hSw; unfold RsS at hSw; (try dsimp only at hSw); go_simp; try with_reducible rfl); (try simp only [List.getElem_toArray, List.getElem_cons_zero, List.getElem_cons_succ, Act.put, List.setIfInBounds_toArray, List.set_cons_zero, List.set_cons_succ])); (refine wpAnyT_take (i := 2) (v := ?_) rfl (by kernel_rfl) (by kernel_rfl) (by kernel_rfl) (by kernel_rfl) (by exact fun _ _ _ h => h) (Or.inl ⟨by kernel_rfl, ?_⟩) hS1 ?_; rotate_left 1; focus (intro w hSw; unfold RsS at hSw; (try dsimp only at hSw); go_simp; try with_reducible rfl); (try simp only [List.getElem_toArray, List.getElem_cons_zero, List.getElem_cons_succ, Act.put, List.setIfInBounds_toArray, List.set_cons_zero, List.set_cons_succ])); (refine wpAnyT_take (i := 3) (v := ?_) rfl (by kernel_rfl) (by kernel_rfl) (by kernel_rfl) (by kernel_rfl) (by exact fun _ _ _ h => h) (Or.inl ⟨by kernel_rfl, ?_⟩) hS1 ?_; rotate_left 1; focus (intro w hSw; unfold RsS at hSw; (try dsimp only at hSw); go_simp; try with_reducible rfl); (try simp only [List.getElem_toArray, List.getElem_cons_zero, List.getElem_cons_succ, Act.put, List.setIfInBounds_toArray, List.set_cons_zero, List.set_cons_succ])); (refine wpAnyT_take (i := 4) (v := ?_) rfl (by kernel_rfl) (by kernel_rfl) (by kernel_rfl) (by kernel_rfl) (by exact fun _ _ _ h => h) (Or.inl ⟨by kernel_rfl, ?_⟩) hS1 ?_; rotate_left 1; focus (intro w hSw; unfold RsS at hSw; (try dsimp only at hSw); go_simp; try with_reducible rfl); (try simp only [List.getElem_toArray, List.getElem_cons_zero, List.getElem_cons_succ, Act.put, List.setIfInBounds_toArray, List.set_cons_zero, List.set_cons_succ])); (refine wpAnyT_take (i := 5) (v := ?_) rfl (by kernel_rfl) (by kernel_rfl) (by kernel_rfl) (by kernel_rfl) (by exact fun _ _ _ h => h) (Or.inl ⟨by kernel_rfl, ?_⟩) hS1 ?_; rotate_left 1; focus (intro w hSw; unfold RsS at hSw; (try dsimp only at hSw); go_simp; try with_reducible rfl); (try simp only [List.getElem_toArray, List.getElem_cons_zero, List.getElem_cons_succ, Act.put, List.setIfInBounds_toArray, List.set_cons_zero, List.set_cons_succ])); (refine wpAnyT_take (i := 6) (v := ?_) rfl (by kernel_rfl) (by kernel_rfl) (by kernel_rfl) (by kernel_rfl) (by exact fun _ _ _ h => h) (Or.inl ⟨by kernel_rfl, ?_⟩) hS1 ?_; rotate_left 1; focus (intro w hSw; unfold RsS at hSw; (try dsimp only at hSw); go_simp; try with_reducible rfl); (try simp only [List.getElem_toArray, List.getElem_cons_zero, List.getElem_cons_succ, Act.put, List.setIfInBounds_toArray, List.set_cons_zero, List.set_cons_succ])); (refine wpAnyT_take (i := 7) (v := ?_) rfl (by kernel_rfl) (by kernel_rfl) (by kernel_rfl) (by kernel_rfl) (by exact fun _ _ _ h => h) (Or.inl ⟨by kernel_rfl, ?_⟩) hS1 ?_; rotate_left 1; focus (intro w hSw; unfold RsS at hSw; (try dsimp only at hSw); go_simp; try with_reducible rfl); (try simp only [List.getElem_toArray, List.getElem_cons_zero, List.getElem_cons_succ, Act.put, List.setIfInBounds_toArray, List.set_cons_zero, List.set_cons_succ])); (refine wpAnyT_take (i := 8) (v := ?_) rfl (by kernel_rfl) (by kernel_rfl) (by kernel_rfl) (by kernel_rfl) (by exact fun _ _ _ h => h) (Or.inl ⟨by kernel_rfl, ?_⟩) hS1 ?_; rotate_left 1; focus (intro w hSw; unfold RsS at hSw; (try dsimp only at hSw); go_simp; try with_reducible rfl); (try simp only [List.getElem_toArray, List.getElem_cons_zero, List.getElem_cons_succ, Act.put, List.setIfInBounds_toArray, List.set_cons_zero, List.set_cons_succ])); (refine wpAnyT_take (i := 9) (v := ?_) rfl (by kernel_rfl) (by kernel_rfl) (by kernel_rfl) (by kernel_rfl) (by exact fun _ _ _ h => h) (Or.inl ⟨by kernel_rfl, ?_⟩) hS1 ?_; rotate_left 1; focus (intro w hSw; unfold RsS at hSw; (try dsimp only at hSw); go_simp; try with_reducible rfl); (try simp only [List.getElem_toArray, List.getElem_cons_zero, List.getElem_cons_succ, Act.put, List.setIfInBounds_toArray, List.set_cons_zero, List.set_cons_succ])); (refine wpAnyT_take (i := 10) (v := ?_) rfl (by kernel_rfl) (by kernel_rfl) (by kernel_rfl) (by kernel_rfl) (by exact fun _ _ _ h => h) (Or.inl ⟨by kernel_rfl, ?_⟩) hS1 ?_; rotate_left 1; focus (intro w hSw; unfold RsS at hSw; (try dsimp only at hSw); go_simp; try with_reducible rfl); (try simp only [List.getElem_toArray, List.getElem_cons_zero, List.getElem_cons_succ, Act.put, List.setIfInBounds_toArray, List.set_cons_zero, List.set_cons_succ])); (refine wpAnyT_take (i := 11) (v := ?_) rfl (by kernel_rfl) (by kernel_rfl) (by kernel_rfl) (by kernel_rfl) (by exact fun _ _ _ h => h) (Or.inl ⟨by kernel_rfl, ?_⟩) hS1 ?_; rotate_left 1; focus (intro w hSw; unfold RsS at hSw; (try dsimp only at hSw); go_simp; try with_reducible rfl); (try simp only [List.getElem_toArray, List.getElem_cons_zero, List.getElem_cons_succ, Act.put, List.setIfInBounds_toArray, List.set_cons_zero, List.set_cons_succ])); (refine wpAnyT_take (i := 12) (v := ?_) rfl (by kernel_rfl) (by kernel_rfl) (by kernel_rfl) (by kernel_rfl) (by exact fun _ _ _ h => h) (Or.inl ⟨by kernel_rfl, ?_⟩) hS1 ?_; rotate_left 1; focus (intro w hSw; unfold RsS at hSw; (try dsimp only at hSw); go_simp; try with_reducible rfl); (try simp only [List.getElem_toArray, List.getElem_cons_zero, List.getElem_cons_succ, Act.put, List.setIfInBounds_toArray, List.set_cons_zero, List.set_cons_succ])); (refine wpAnyT_take (i := 13) (v := ?_) rfl (by kernel_rfl) (by kernel_rfl) (by kernel_rfl) (by kernel_rfl) (by exact fun _ _ _ h => h) (Or.inl ⟨by kernel_rfl, ?_⟩) hS1 ?_; rotate_left 1; focus (intro w hSw; unfold RsS at hSw; (try dsimp only at hSw); go_simp; try with_reducible rfl); (try simp only [List.getElem_toArray, List.getElem_cons_zero, List.getElem_cons_succ, Act.put, List.setIfInBounds_toArray, List.set_cons_zero, List.set_cons_succ])); (refine wpAnyT_take (i := 14) (v := ?_) rfl (by kernel_rfl) (by kernel_rfl) (by kernel_rfl) (by kernel_rfl) (by exact fun _ _ _ h => h) (Or.inl ⟨by kernel_rfl, ?_⟩) hS1 ?_; rotate_left 1; focus (intro w hSw; unfold RsS at hSw; (try dsimp only at hSw); go_simp; try with_reducible rfl); (try simp only [List.getElem_toArray, List.getElem_cons_zero, List.getElem_cons_succ, Act.put, List.setIfInBounds_toArray, List.set_cons_zero, List.set_cons_succ])); (refine wpAnyT_take (i := 15) (v := ?_) rfl (by kernel_rfl) (by kernel_rfl) (by kernel_rfl) (by kernel_rfl) (by exact fun _ _ _ h => h) (Or.inl ⟨by kernel_rfl, ?_⟩) hS1 ?_; rotate_left 1; focus (intro w hSw; unfold RsS at hSw; (try dsimp only at hSw); go_simp; try with_reducible rfl); (try simp only [List.getElem_toArray, List.getElem_cons_zero, List.getElem_cons_succ, Act.put, List.setIfInBounds_toArray, List.set_cons_zero, List.set_cons_succ])); (refine wpAnyT_take (i := 16) (v := ?_) rfl (by kernel_rfl) (by kernel_rfl) (by kernel_rfl) (by kernel_rfl) (by exact fun _ _ _ h => h) (Or.inl ⟨by kernel_rfl, ?_⟩) hS1 ?_; rotate_left 1; focus (intro w hSw; unfold RsS at hSw; (try dsimp only at hSw); go_simp; try with_reducible rfl); (try simp only [List.getElem_toArray, List.getElem_cons_zero, List.getElem_cons_succ, Act.put, List.setIfInBounds_toArray, List.set_cons_zero, List.set_cons_succ])); (refine wpAnyT_take (i := 17) (v := ?_) rfl (by kernel_rfl) (by kernel_rfl) (by kernel_rfl) (by kernel_rfl) (by exact fun _ _ _ h => h) (Or.inl ⟨by kernel_rfl, ?_⟩) hS1 ?_; rotate_left 1; focus (intro w hSw; unfold RsS at hSw; (try dsimp only at hSw); go_simp; try with_reducible rfl); (try simp only [List.getElem_toArray, List.getElem_cons_zero, List.getElem_cons_succ, Act.put, List.setIfInBounds_toArray, List.set_cons_zero, List.set_cons_succ])); (refine wpAnyT_take (i := 18) (v := ?_) rfl (by kernel_rfl) (by kernel_rfl) (by kernel_rfl) (by kernel_rfl) (by exact fun _ _ _ h => h) (Or.inl ⟨by kernel_rfl, ?_⟩) hS1 ?_; rotate_left 1; focus (intro w hSw; unfold RsS at hSw; (try dsimp only at hSw); go_simp; try with_reducible rfl); (try simp only [List.getElem_toArray, List.getElem_cons_zero, List.getElem_cons_succ, Act.put, List.setIfInBounds_toArray, List.set_cons_zero, List.set_cons_succ])); (refine wpAnyT_take (i := 19) (v := ?_) rfl (by kernel_rfl) (by kernel_rfl) (by kernel_rfl) (by kernel_rfl) (by exact fun _ _ _ h => h) (Or.inl ⟨by kernel_rfl, ?_⟩) hS1 ?_; rotate_left 1; focus (intro w hSw; unfold RsS at hSw; (try dsimp only at hSw); go_simp; try with_reducible rfl); (try simp only [List.getElem_toArray, List.getElem_cons_zero, List.getElem_cons_succ, Act.put, List.setIfInBounds_toArray, List.set_cons_zero, List.set_cons_succ])))
      ((refine wpAnyT_take (i := 20) (v := _) rfl (by kernel_rfl) (by kernel_rfl) (by kernel_rfl) (by kernel_rfl) (by exact fun _ _ _ h => h) (Or.inr ⟨by kernel_rfl, rfl⟩) hS1 ?_; (try simp only [List.getElem_toArray, List.getElem_cons_zero, List.getElem_cons_succ, Act.put, List.setIfInBounds_toArray, List.set_cons_zero, List.set_cons_succ])); (refine wpAnyT_take (i := 21) (v := _) rfl (by kernel_rfl) (by kernel_rfl) (by kernel_rfl) (by kernel_rfl) (by exact fun _ _ _ h => h) (Or.inr ⟨by kernel_rfl, rfl⟩) hS1 ?_; (try simp only [List.getElem_toArray, List.getElem_cons_zero, List.getElem_cons_succ, Act.put, List.setIfInBounds_toArray, List.set_cons_zero, List.set_cons_succ])); (refine wpAnyT_take (i := 22) (v := _) rfl (by kernel_rfl) (by kernel_rfl) (by kernel_rfl) (by kernel_rfl) (by exact fun _ _ _ h => h) (Or.inr ⟨by kernel_rfl, rfl⟩) hS1 ?_; (try simp only [List.getElem_toArray, List.getElem_cons_zero, List.getElem_cons_succ, Act.put, List.setIfInBounds_toArray, List.set_cons_zero, List.set_cons_succ])); (refine wpAnyT_take (i := 23) (v := _) rfl (by kernel_rfl) (by kernel_rfl) (by kernel_rfl) (by kernel_rfl) (by exact fun _ _ _ h => h) (Or.inr ⟨by kernel_rfl, rfl⟩) hS1 ?_; (try simp only [List.getElem_toArray, List.getElem_cons_zero, List.getElem_cons_succ, Act.put, List.setIfInBounds_toArray, List.set_cons_zero, List.set_cons_succ])); (refine wpAnyT_take (i := 24) (v := _) rfl (by kernel_rfl) (by kernel_rfl) (by kernel_rfl) (by kernel_rfl) (by exact fun _ _ _ h => h) (Or.inr ⟨by kernel_rfl, rfl⟩) hS1 ?_; (try simp only [List.getElem_toArray, List.getElem_cons_zero, List.getElem_cons_succ, Act.put, List.setIfInBounds_toArray, List.set_cons_zero, List.set_cons_succ])); (refine wpAnyT_take (i := 25) (v := _) rfl (by kernel_rfl) (by kernel_rfl) (by kernel_rfl) (by kernel_rfl) (by exact fun _ _ _ h => h) (Or.inr ⟨by kernel_rfl, rfl⟩) hS1 ?_; (try simp only [List.getElem_toArray, List.getElem_cons_zero, List.getElem_cons_succ, Act.put, List.setIfInBounds_toArray, List.set_cons_zero, List.set_cons_succ])))
      ((refine wpAnyT_take (i := 26) (v := ?_) rfl (by kernel_rfl) (by kernel_rfl) (by kernel_rfl) (by kernel_rfl) (by exact fun _ _ _ h => h) (Or.inl ⟨by kernel_rfl, ?_⟩) hS1 ?_; rotate_left 1; focus (intro w hSw; unfold RsS at hSw; (try dsimp only at hSw); go_simp; try with_reducible rfl); (try simp only [List.getElem_toArray, List.getElem_cons_zero, List.getElem_cons_succ, Act.put, List.setIfInBounds_toArray, List.set_cons_zero, List.set_cons_succ])); (refine wpAnyT_take (i := 27) (v := ?_) rfl (by kernel_rfl) (by kernel_rfl) (by kernel_rfl) (by kernel_rfl) (by exact fun _ _ _ h => h) (Or.inl ⟨by kernel_rfl, ?_⟩) hS1 ?_; rotate_left 1; focus (intro w hSw; unfold RsS at hSw; (try dsimp only at hSw); go_simp; try with_reducible rfl); (try simp only [List.getElem_toArray, List.getElem_cons_zero, List.getElem_cons_succ, Act.put, List.setIfInBounds_toArray, List.set_cons_zero, List.set_cons_succ])))
      refine wpAnyT_done (by kernel_rfl) ?_ _
      clear hS1
      have E2 := hid E1.out
      obtain ⟨wF, hwF⟩ : ∃ wF, wF = wA := ⟨_, rfl⟩
      rw [← hwF] at E1 E2 ⊢
      clear hwF
      have r8 := hid ((E2.out.block _ (lt_of_block r76.out)).trans r76.out)
      have b0 := box_at (j := 0) r8.out rfl
      have b1 := box_at (j := 1) r8.out rfl
      have b2 := box_at (j := 2) r8.out rfl
      have b3 := box_at (j := 3) r8.out rfl
      have b4 := box_at (j := 4) r8.out rfl
      go_wp2_with fail
      refine (hze3.out _ _ (X6.out.later E2.out)).mono ?_
      rintro e w8 ⟨rfl, h8⟩
      go_wp2_with fail
      go_ret
      exact ⟨rfl, D6.out.step (E2.out.step h8)⟩
  | some ys =>
    obtain ⟨x, rfl⟩ : ∃ x, ys = [x] := by
      have := hln.out ys rfl
      match ys, this with
      | [x], _ => exact ⟨x, rfl⟩
    obtain ⟨v6, rfl, r6⟩ := hR6
    replace r6 := hid r6
    obtain rfl : e3 = 0 := he3.out
    obtain rfl : PVal.mk xk xn xt xl xfn xfv = x := hV3.out
    clear hV3 he3 hln hze
    obtain ⟨a6, c6, rfl, _⟩ := rdL_form6 r6.out
    by_cases hg : G = 0
    · subst hg
      have hJK : J = K := hJ.out.trans (if_pos rfl)
      subst hJK
      have hro' := hid (hro.out (hfm.out rfl))
      have hS : Hid (∀ x, Below w6.heap.size w6 x → (RsS w.heap.size (.int .i64 k) (.int .i64 n) (.string s) (.slice la vl.length lc) (.slice fa fv.length fc) (.slice j2 J.length c2) ⟨J.toArray⟩) x) := fun x h => rsS_mk q6.out h (conv_at (x6.out.later h))
      clear hro hfm
      go_upto_region 7 with fail
      refine wp_region_T (RsS w.heap.size (.int .i64 k) (.int .i64 n) (.string s) (.slice la vl.length lc) (.slice fa fv.length fc) (.slice j2 J.length c2) ⟨J.toArray⟩) 28 (by kernel_rfl) ?_
      have hS0 := hS.out _ (Below.refl w6.heap.size w6).drew
      refine wpAnyT_one (i := 0) (by kernel_rfl) rfl (fun K hK => ?_)
      go_simp
      refine (haw.out _ (hT.out _ D6.out.drew)).mono ?_
      rintro e wA ⟨rfl, hA⟩
      have E1 := hid ((Below.refl w6.heap.size w6).drew.step hA)
      clear hA hS0
      have hS1 := hS.out _ E1.out
      (refine hK.out _ _ (fun _ => hS1) (fun _ => ?_); clear hK K; (try simp only [Act.put, List.setIfInBounds_toArray, List.set_cons_zero, List.set_cons_succ]))
      ((refine wpAnyT_take (i := 1) (v := ?_) rfl (by kernel_rfl) (by kernel_rfl) (by kernel_rfl) (by kernel_rfl) (by exact fun _ _ _ h => h) (Or.inl ⟨by kernel_rfl, ?_⟩) hS1 ?_; rotate_left 1; focus (intro w hSw; unfold RsS at hSw; (try dsimp only at hSw); go_simp; try with_reducible rfl); (try simp only [List.getElem_toArray, List.getElem_cons_zero, List.getElem_cons_succ, Act.put, List.setIfInBounds_toArray, List.set_cons_zero, List.set_cons_succ])); (refine wpAnyT_take (i := 2) (v := ?_) rfl (by kernel_rfl) (by kernel_rfl) (by kernel_rfl) (by kernel_rfl) (by exact fun _ _ _ h => h) (Or.inl ⟨by kernel_rfl, ?_⟩) hS1 ?_; rotate_left 1; focus (intro w hSw; unfold RsS at hSw; (try dsimp only at hSw); go_simp; try with_reducible rfl); (try simp only [List.getElem_toArray, List.getElem_cons_zero, List.getElem_cons_succ, Act.put, List.setIfInBounds_toArray, List.set_cons_zero, List.set_cons_succ])); (refine wpAnyT_take (i := 3) (v := ?_) rfl (by kernel_rfl) (by kernel_rfl) (by kernel_rfl) (by kernel_rfl) (by exact fun _ _ _ h => h) (Or.inl ⟨by kernel_rfl, ?_⟩) hS1 ?_; rotate_left 1; focus (intro w hSw; unfold RsS at hSw; (try dsimp only at hSw); go_simp; try with_reducible rfl); (try simp only [List.getElem_toArray, List.getElem_cons_zero, List.getElem_cons_succ, Act.put, List.setIfInBounds_toArray, List.set_cons_zero, List.set_cons_succ])); (refine wpAnyT_take (i := 4) (v := ?_) rfl (by kernel_rfl) (by kernel_rfl) (by kernel_rfl) (by kernel_rfl) (by exact fun _ _ _ h => h) (Or.inl ⟨by kernel_rfl, ?_⟩) hS1 ?_; rotate_left 1; focus (intro w hSw; unfold RsS at hSw; (try dsimp only at hSw); go_simp; try with_reducible rfl); (try simp only [List.getElem_toArray, List.getElem_cons_zero, List.getElem_cons_succ, Act.put, List.setIfInBounds_toArray, List.set_cons_zero, List.set_cons_succ])); (refine wpAnyT_take (i := 5) (v := ?_) rfl (by kernel_rfl) (by kernel_rfl) (by kernel_rfl) (by kernel_rfl) (by exact fun _ _ _ h => h) (Or.inl ⟨by kernel_rfl, ?_⟩) hS1 ?_; rotate_left 1; focus (intro w hSw; unfold RsS at hSw; (try dsimp only at hSw); go_simp; try with_reducible rfl); (try simp only [List.getElem_toArray, List.getElem_cons_zero, List.getElem_cons_succ, Act.put, List.setIfInBounds_toArray, List.set_cons_zero, List.set_cons_succ])); (refine wpAnyT_take (i := 6) (v := ?_) rfl (by kernel_rfl) (by kernel_rfl) (by kernel_rfl) (by kernel_rfl) (by exact fun _ _ _ h => h) (Or.inl ⟨by kernel_rfl, ?_⟩) hS1 ?_; rotate_left 1; focus (intro w hSw; unfold RsS at hSw; (try dsimp only at hSw); go_simp; try with_reducible rfl); (try simp only [List.getElem_toArray, List.getElem_cons_zero, List.getElem_cons_succ, Act.put, List.setIfInBounds_toArray, List.set_cons_zero, List.set_cons_succ])); (refine wpAnyT_take (i := 7) (v := ?_) rfl (by kernel_rfl) (by kernel_rfl) (by kernel_rfl) (by kernel_rfl) (by exact fun _ _ _ h => h) (Or.inl ⟨by kernel_rfl, ?_⟩) hS1 ?_; rotate_left 1; focus (intro w hSw; unfold RsS at hSw; (try dsimp only at hSw); go_simp; try with_reducible rfl); (try simp only [List.getElem_toArray, List.getElem_cons_zero, List.getElem_cons_succ, Act.put, List.setIfInBounds_toArray, List.set_cons_zero, List.set_cons_succ])); (refine wpAnyT_take (i := 8) (v := ?_) rfl (by kernel_rfl) (by kernel_rfl) (by kernel_rfl) (by kernel_rfl) (by exact fun _ _ _ h => h) (Or.inl ⟨by kernel_rfl, ?_⟩) hS1 ?_; rotate_left 1; focus (intro w hSw; unfold RsS at hSw; (try dsimp only at hSw); go_simp; try with_reducible rfl); (try simp only [List.getElem_toArray, List.getElem_cons_zero, List.getElem_cons_succ, Act.put, List.setIfInBounds_toArray, List.set_cons_zero, List.set_cons_succ])); (refine wpAnyT_take (i := 9) (v := ?_) rfl (by kernel_rfl) (by kernel_rfl) (by kernel_rfl) (by kernel_rfl) (by exact fun _ _ _ h => h) (Or.inl ⟨by kernel_rfl, ?_⟩) hS1 ?_; rotate_left 1; focus (intro w hSw; unfold RsS at hSw; (try dsimp only at hSw); go_simp; try with_reducible rfl); (try simp only [List.getElem_toArray, List.getElem_cons_zero, List.getElem_cons_succ, Act.put, List.setIfInBounds_toArray, List.set_cons_zero, List.set_cons_succ])); (refine wpAnyT_take (i := 10) (v := ?_) rfl (by kernel_rfl) (by kernel_rfl) (by kernel_rfl) (by kernel_rfl) (by exact fun _ _ _ h => h) (Or.inl ⟨by kernel_rfl, ?_⟩) hS1 ?_; rotate_left 1; focus (intro w hSw; unfold RsS at hSw; (try dsimp only at hSw); go_simp; try with_reducible rfl); (try simp only [List.getElem_toArray, List.getElem_cons_zero, List.getElem_cons_succ, Act.put, List.setIfInBounds_toArray, List.set_cons_zero, List.set_cons_succ])))
      ((refine wpAnyT_take (i := 11) (v := _) rfl (by kernel_rfl) (by kernel_rfl) (by kernel_rfl) (by kernel_rfl) (by exact fun _ _ _ h => h) (Or.inr ⟨by kernel_rfl, rfl⟩) hS1 ?_; (try simp only [List.getElem_toArray, List.getElem_cons_zero, List.getElem_cons_succ, Act.put, List.setIfInBounds_toArray, List.set_cons_zero, List.set_cons_succ])); (refine wpAnyT_take (i := 12) (v := _) rfl (by kernel_rfl) (by kernel_rfl) (by kernel_rfl) (by kernel_rfl) (by exact fun _ _ _ h => h) (Or.inr ⟨by kernel_rfl, rfl⟩) hS1 ?_; (try simp only [List.getElem_toArray, List.getElem_cons_zero, List.getElem_cons_succ, Act.put, List.setIfInBounds_toArray, List.set_cons_zero, List.set_cons_succ])); (refine wpAnyT_take (i := 13) (v := _) rfl (by kernel_rfl) (by kernel_rfl) (by kernel_rfl) (by kernel_rfl) (by exact fun _ _ _ h => h) (Or.inr ⟨by kernel_rfl, rfl⟩) hS1 ?_; (try simp only [List.getElem_toArray, List.getElem_cons_zero, List.getElem_cons_succ, Act.put, List.setIfInBounds_toArray, List.set_cons_zero, List.set_cons_succ])))
      ((refine wpAnyT_take (i := 14) (v := ?_) rfl (by kernel_rfl) (by kernel_rfl) (by kernel_rfl) (by kernel_rfl) (by exact fun _ _ _ h => h) (Or.inl ⟨by kernel_rfl, ?_⟩) hS1 ?_; rotate_left 1; focus (intro w hSw; unfold RsS at hSw; (try dsimp only at hSw); go_simp; try with_reducible rfl); (try simp only [List.getElem_toArray, List.getElem_cons_zero, List.getElem_cons_succ, Act.put, List.setIfInBounds_toArray, List.set_cons_zero, List.set_cons_succ])); (refine wpAnyT_take (i := 15) (v := ?_) rfl (by kernel_rfl) (by kernel_rfl) (by kernel_rfl) (by kernel_rfl) (by exact fun _ _ _ h => h) (Or.inl ⟨by kernel_rfl, ?_⟩) hS1 ?_; rotate_left 1; focus (intro w hSw; unfold RsS at hSw; (try dsimp only at hSw); go_simp; try with_reducible rfl); (try simp only [List.getElem_toArray, List.getElem_cons_zero, List.getElem_cons_succ, Act.put, List.setIfInBounds_toArray, List.set_cons_zero, List.set_cons_succ])); (refine wpAnyT_take (i := 16) (v := ?_) rfl (by kernel_rfl) (by kernel_rfl) (by kernel_rfl) (by kernel_rfl) (by exact fun _ _ _ h => h) (Or.inl ⟨by kernel_rfl, ?_⟩) hS1 ?_; rotate_left 1; focus (intro w hSw; unfold RsS at hSw; (try dsimp only at hSw); go_simp; try with_reducible rfl); (try simp only [List.getElem_toArray, List.getElem_cons_zero, List.getElem_cons_succ, Act.put, List.setIfInBounds_toArray, List.set_cons_zero, List.set_cons_succ])); (refine wpAnyT_take (i := 17) (v := ?_) rfl (by kernel_rfl) (by kernel_rfl) (by kernel_rfl) (by kernel_rfl) (by exact fun _ _ _ h => h) (Or.inl ⟨by kernel_rfl, ?_⟩) hS1 ?_; rotate_left 1; focus (intro w hSw; unfold RsS at hSw; (try dsimp only at hSw); go_simp; try with_reducible rfl); (try simp only [List.getElem_toArray, List.getElem_cons_zero, List.getElem_cons_succ, Act.put, List.setIfInBounds_toArray, List.set_cons_zero, List.set_cons_succ])); (refine wpAnyT_take (i := 18) (v := ?_) rfl (by kernel_rfl) (by kernel_rfl) (by kernel_rfl) (by kernel_rfl) (by exact fun _ _ _ h => h) (Or.inl ⟨by kernel_rfl, ?_⟩) hS1 ?_; rotate_left 1; focus (intro w hSw; unfold RsS at hSw; (try dsimp only at hSw); go_simp; try with_reducible rfl); (try simp only [List.getElem_toArray, List.getElem_cons_zero, List.getElem_cons_succ, Act.put, List.setIfInBounds_toArray, List.set_cons_zero, List.set_cons_succ])); (refine wpAnyT_take (i := 19) (v := ?_) rfl (by kernel_rfl) (by kernel_rfl) (by kernel_rfl) (by kernel_rfl) (by exact fun _ _ _ h => h) (Or.inl ⟨by kernel_rfl, ?_⟩) hS1 ?_; rotate_left 1; focus (intro w hSw; unfold RsS at hSw; (try dsimp only at hSw); go_simp; try with_reducible rfl); (try simp only [List.getElem_toArray, List.getElem_cons_zero, List.getElem_cons_succ, Act.put, List.setIfInBounds_toArray, List.set_cons_zero, List.set_cons_succ])); (refine wpAnyT_take (i := 20) (v := ?_) rfl (by kernel_rfl) (by kernel_rfl) (by kernel_rfl) (by kernel_rfl) (by exact fun _ _ _ h => h) (Or.inl ⟨by kernel_rfl, ?_⟩) hS1 ?_; rotate_left 1; focus (intro w hSw; unfold RsS at hSw; (try dsimp only at hSw); go_simp; try with_reducible rfl); (try simp only [List.getElem_toArray, List.getElem_cons_zero, List.getElem_cons_succ, Act.put, List.setIfInBounds_toArray, List.set_cons_zero, List.set_cons_succ])); (refine wpAnyT_take (i := 21) (v := ?_) rfl (by kernel_rfl) (by kernel_rfl) (by kernel_rfl) (by kernel_rfl) (by exact fun _ _ _ h => h) (Or.inl ⟨by kernel_rfl, ?_⟩) hS1 ?_; rotate_left 1; focus (intro w hSw; unfold RsS at hSw; (try dsimp only at hSw); go_simp; try with_reducible rfl); (try simp only [List.getElem_toArray, List.getElem_cons_zero, List.getElem_cons_succ, Act.put, List.setIfInBounds_toArray, List.set_cons_zero, List.set_cons_succ])); (refine wpAnyT_take (i := 22) (v := ?_) rfl (by kernel_rfl) (by kernel_rfl) (by kernel_rfl) (by kernel_rfl) (by exact fun _ _ _ h => h) (Or.inl ⟨by kernel_rfl, ?_⟩) hS1 ?_; rotate_left 1; focus (intro w hSw; unfold RsS at hSw; (try dsimp only at hSw); go_simp; try with_reducible rfl); (try simp only [List.getElem_toArray, List.getElem_cons_zero, List.getElem_cons_succ, Act.put, List.setIfInBounds_toArray, List.set_cons_zero, List.set_cons_succ])))
      refine wpAnyT_one (i := 23) (by kernel_rfl) rfl (fun K hK => ?_)
      go_simp
      refine (hro'.out _ _ (hV0.out.later (D6.out.step E1.out))).mono ?_
      rintro e wF ⟨vF, rfl, gF, cF, rfl, hmF⟩
      have E2 := hid (E1.out.step hmF.below)
      have cvF := conv_buf (P := Tryd.prog) Tryd.underlying26 Tryd.underlying5 Tryd.underlying9 hmF
      clear hmF hS1
      have hS2 := hS.out _ E2.out
      (refine hK.out _ _ (fun _ => hS2) (fun _ => ?_); clear hK K; (try simp only [Act.put, List.setIfInBounds_toArray, List.set_cons_zero, List.set_cons_succ]))
      refine wpAnyT_one (i := 24) (by kernel_rfl) rfl (fun K hK => ?_)
      go_simp
      (refine hK.out _ _ (fun _ => hS2) (fun _ => ?_); clear hK K; (try simp only [Act.put, List.setIfInBounds_toArray, List.set_cons_zero, List.set_cons_succ]))
      clear cvF
      ((refine wpAnyT_take (i := 25) (v := ?_) rfl (by kernel_rfl) (by kernel_rfl) (by kernel_rfl) (by kernel_rfl) (by exact fun _ _ _ h => h) (Or.inl ⟨by kernel_rfl, ?_⟩) hS2 ?_; rotate_left 1; focus (intro w hSw; unfold RsS at hSw; (try dsimp only at hSw); go_simp; try with_reducible rfl); (try simp only [List.getElem_toArray, List.getElem_cons_zero, List.getElem_cons_succ, Act.put, List.setIfInBounds_toArray, List.set_cons_zero, List.set_cons_succ])); (refine wpAnyT_take (i := 26) (v := ?_) rfl (by kernel_rfl) (by kernel_rfl) (by kernel_rfl) (by kernel_rfl) (by exact fun _ _ _ h => h) (Or.inl ⟨by kernel_rfl, ?_⟩) hS2 ?_; rotate_left 1; focus (intro w hSw; unfold RsS at hSw; (try dsimp only at hSw); go_simp; try with_reducible rfl); (try simp only [List.getElem_toArray, List.getElem_cons_zero, List.getElem_cons_succ, Act.put, List.setIfInBounds_toArray, List.set_cons_zero, List.set_cons_succ])); (refine wpAnyT_take (i := 27) (v := ?_) rfl (by kernel_rfl) (by kernel_rfl) (by kernel_rfl) (by kernel_rfl) (by exact fun _ _ _ h => h) (Or.inl ⟨by kernel_rfl, ?_⟩) hS2 ?_; rotate_left 1; focus (intro w hSw; unfold RsS at hSw; (try dsimp only at hSw); go_simp; try with_reducible rfl); (try simp only [List.getElem_toArray, List.getElem_cons_zero, List.getElem_cons_succ, Act.put, List.setIfInBounds_toArray, List.set_cons_zero, List.set_cons_succ])))
      refine wpAnyT_done (by kernel_rfl) ?_ _
      clear hS2
      have hL := r6.out.later E2.out
      have r8 := hid ((E2.out.block _ (lt_of_block r76.out)).trans r76.out)
      obtain ⟨b, o, cs9, rfl, hSb, hcell, hrd⟩ := RdL.at_ (i := 0) hL rfl
      obtain ⟨ta, tc, ua, uc, rfl, _⟩ := hrd.inv
      have hcc := hid (fun (j : Nat) (v : Value) (h : [Value.int .i64 xk, .int .i64 xn, .string xt, .slice ta xl.length tc, .slice ua xfv.length uc][j]? = some v) => hcell j v h)
      have hbb := hid hSb
      have X9 := hid (X6.out.later E2.out)
      replace hrd := hid hrd
      clear hcell hSb hL
      have hS9 : Hid (∀ x, Below wF.heap.size wF x → (SaS w3.heap.size b o (.int .i64 xk) (.int .i64 xn) (.string xt) (.slice ya xl.length yc) (.slice za xfv.length zc) (.int .i64 xk) (.int .i64 xn) (.string xt) (.slice ta xl.length tc) (.slice ua xfv.length uc)) x) := fun x h => by
        have e := (h.block _ (lt_of_block r8.out)).trans r8.out
        have hc : ∀ (j : Nat) (v : Value), [Value.int .i64 xk, .int .i64 xn, .string xt, .slice ta xl.length tc, .slice ua xfv.length uc][j]? = some v → x.cell? ⟨b, o + j, none⟩ = some v := fun j v hj => by
          have := hcc.out j v hj
          rw [Nat.zero_mul, Nat.add_zero] at this
          exact (h.cell (p := ⟨b, _, none⟩) hbb.out).trans this
        exact ⟨box_at (j := 0) e rfl, box_at (j := 1) e rfl, box_at (j := 2) e rfl, box_at (j := 3) e rfl, box_at (j := 4) e rfl, hc 0 _ rfl, hc 1 _ rfl, hc 2 _ rfl, hc 3 _ rfl, hc 4 _ rfl⟩
      clear hcc hbb r8
      go_upto_region 11 with fail
      refine wp_region_T (SaS w3.heap.size b o (.int .i64 xk) (.int .i64 xn) (.string xt) (.slice ya xl.length yc) (.slice za xfv.length zc) (.int .i64 xk) (.int .i64 xn) (.string xt) (.slice ta xl.length tc) (.slice ua xfv.length uc)) 10 (by kernel_rfl) ?_
      have hS0 := hS9.out _ (Below.refl wF.heap.size wF).drew
      ((refine wpAnyT_take (i := 0) (v := ?_) rfl (by kernel_rfl) (by kernel_rfl) (by kernel_rfl) (by kernel_rfl) (by exact fun _ _ _ h => h) (Or.inl ⟨by kernel_rfl, ?_⟩) hS0 ?_; rotate_left 1; focus (intro w hSw; unfold SaS at hSw; (try dsimp only at hSw); go_simp; try with_reducible rfl); (try simp only [List.getElem_toArray, List.getElem_cons_zero, List.getElem_cons_succ, Act.put, List.setIfInBounds_toArray, List.set_cons_zero, List.set_cons_succ])); (refine wpAnyT_take (i := 1) (v := ?_) rfl (by kernel_rfl) (by kernel_rfl) (by kernel_rfl) (by kernel_rfl) (by exact fun _ _ _ h => h) (Or.inl ⟨by kernel_rfl, ?_⟩) hS0 ?_; rotate_left 1; focus (intro w hSw; unfold SaS at hSw; (try dsimp only at hSw); go_simp; try with_reducible rfl); (try simp only [List.getElem_toArray, List.getElem_cons_zero, List.getElem_cons_succ, Act.put, List.setIfInBounds_toArray, List.set_cons_zero, List.set_cons_succ])); (refine wpAnyT_take (i := 2) (v := ?_) rfl (by kernel_rfl) (by kernel_rfl) (by kernel_rfl) (by kernel_rfl) (by exact fun _ _ _ h => h) (Or.inl ⟨by kernel_rfl, ?_⟩) hS0 ?_; rotate_left 1; focus (intro w hSw; unfold SaS at hSw; (try dsimp only at hSw); go_simp; try with_reducible rfl); (try simp only [List.getElem_toArray, List.getElem_cons_zero, List.getElem_cons_succ, Act.put, List.setIfInBounds_toArray, List.set_cons_zero, List.set_cons_succ])); (refine wpAnyT_take (i := 3) (v := ?_) rfl (by kernel_rfl) (by kernel_rfl) (by kernel_rfl) (by kernel_rfl) (by exact fun _ _ _ h => h) (Or.inl ⟨by kernel_rfl, ?_⟩) hS0 ?_; rotate_left 1; focus (intro w hSw; unfold SaS at hSw; (try dsimp only at hSw); go_simp; try with_reducible rfl); (try simp only [List.getElem_toArray, List.getElem_cons_zero, List.getElem_cons_succ, Act.put, List.setIfInBounds_toArray, List.set_cons_zero, List.set_cons_succ])); (refine wpAnyT_take (i := 4) (v := ?_) rfl (by kernel_rfl) (by kernel_rfl) (by kernel_rfl) (by kernel_rfl) (by exact fun _ _ _ h => h) (Or.inl ⟨by kernel_rfl, ?_⟩) hS0 ?_; rotate_left 1; focus (intro w hSw; unfold SaS at hSw; (try dsimp only at hSw); go_simp; try with_reducible rfl); (try simp only [List.getElem_toArray, List.getElem_cons_zero, List.getElem_cons_succ, Act.put, List.setIfInBounds_toArray, List.set_cons_zero, List.set_cons_succ])); (refine wpAnyT_take (i := 5) (v := ?_) rfl (by kernel_rfl) (by kernel_rfl) (by kernel_rfl) (by kernel_rfl) (by exact fun _ _ _ h => h) (Or.inl ⟨by kernel_rfl, ?_⟩) hS0 ?_; rotate_left 1; focus (intro w hSw; unfold SaS at hSw; (try dsimp only at hSw); go_simp; try with_reducible rfl); (try simp only [List.getElem_toArray, List.getElem_cons_zero, List.getElem_cons_succ, Act.put, List.setIfInBounds_toArray, List.set_cons_zero, List.set_cons_succ])); (refine wpAnyT_take (i := 6) (v := ?_) rfl (by kernel_rfl) (by kernel_rfl) (by kernel_rfl) (by kernel_rfl) (by exact fun _ _ _ h => h) (Or.inl ⟨by kernel_rfl, ?_⟩) hS0 ?_; rotate_left 1; focus (intro w hSw; unfold SaS at hSw; (try dsimp only at hSw); go_simp; try with_reducible rfl); (try simp only [List.getElem_toArray, List.getElem_cons_zero, List.getElem_cons_succ, Act.put, List.setIfInBounds_toArray, List.set_cons_zero, List.set_cons_succ])))
      refine wpAnyT_one (i := 7) (by kernel_rfl) rfl (fun K hK => ?_)
      go_simp
      refine (hsm.out _ _ _ _ (X9.out.later (Below.refl _ _).drew) (hrd.out.later (Below.refl _ _).drew)).mono ?_
      rintro e w8 ⟨rfl, h8⟩
      have E8 := hid ((Below.refl wF.heap.size wF).drew.step h8)
      clear h8 hS0
      have hS1 := hS9.out _ E8.out
      (refine hK.out _ _ (fun _ => hS1) (fun _ => ?_); clear hK K; (try simp only [Act.put, List.setIfInBounds_toArray, List.set_cons_zero, List.set_cons_succ]))
      ((refine wpAnyT_take (i := 8) (v := ?_) rfl (by kernel_rfl) (by kernel_rfl) (by kernel_rfl) (by kernel_rfl) (by exact fun _ _ _ h => h) (Or.inl ⟨by kernel_rfl, ?_⟩) hS1 ?_; rotate_left 1; focus (intro w hSw; unfold SaS at hSw; (try dsimp only at hSw); go_simp; try with_reducible rfl); (try simp only [List.getElem_toArray, List.getElem_cons_zero, List.getElem_cons_succ, Act.put, List.setIfInBounds_toArray, List.set_cons_zero, List.set_cons_succ])); (refine wpAnyT_take (i := 9) (v := ?_) rfl (by kernel_rfl) (by kernel_rfl) (by kernel_rfl) (by kernel_rfl) (by exact fun _ _ _ h => h) (Or.inl ⟨by kernel_rfl, ?_⟩) hS1 ?_; rotate_left 1; focus (intro w hSw; unfold SaS at hSw; (try dsimp only at hSw); go_simp; try with_reducible rfl); (try simp only [List.getElem_toArray, List.getElem_cons_zero, List.getElem_cons_succ, Act.put, List.setIfInBounds_toArray, List.set_cons_zero, List.set_cons_succ])))
      refine wpAnyT_done (by kernel_rfl) ?_ _
      go_wp2_with fail
      go_ret
      exact ⟨rfl, D6.out.step (E2.out.step E8.out)⟩
    · have hg1 : (G != 0) = true := by simp [hg]
      have hg2 : (G == 0) = false := by simp [hg]
      obtain rfl : J = [] := hJ.out.trans (if_neg hg)
      have hS : Hid (∀ x, Below w6.heap.size w6 x → (RsS w.heap.size (.int .i64 k) (.int .i64 n) (.string s) (.slice la vl.length lc) (.slice fa fv.length fc) (.slice j2 0 c2) ⟨(([] : List UInt8)).toArray⟩) x) := fun x h => rsS_mk q6.out h (conv_at (x6.out.later h))
      clear hro hfm
      go_upto_region 7 with fail
      refine wp_region_T (RsS w.heap.size (.int .i64 k) (.int .i64 n) (.string s) (.slice la vl.length lc) (.slice fa fv.length fc) (.slice j2 0 c2) ⟨(([] : List UInt8)).toArray⟩) 28 (by kernel_rfl) ?_
      have hS0 := hS.out _ (Below.refl w6.heap.size w6).drew
      refine wpAnyT_one (i := 0) (by kernel_rfl) rfl (fun K hK => ?_)
      go_simp
      refine (haw.out _ (hT.out _ D6.out.drew)).mono ?_
      rintro e wA ⟨rfl, hA⟩
      have E1 := hid ((Below.refl w6.heap.size w6).drew.step hA)
      clear hA hS0
      have hS1 := hS.out _ E1.out
      (refine hK.out _ _ (fun _ => hS1) (fun _ => ?_); clear hK K; (try simp only [Act.put, List.setIfInBounds_toArray, List.set_cons_zero, List.set_cons_succ]))
      ((refine wpAnyT_take (i := 1) (v := ?_) rfl (by kernel_rfl) (by kernel_rfl) (by kernel_rfl) (by kernel_rfl) (by exact fun _ _ _ h => h) (Or.inl ⟨by kernel_rfl, ?_⟩) hS1 ?_; rotate_left 1; focus (intro w hSw; unfold RsS at hSw; (try dsimp only at hSw); go_simp; try with_reducible rfl); (try simp only [List.getElem_toArray, List.getElem_cons_zero, List.getElem_cons_succ, Act.put, List.setIfInBounds_toArray, List.set_cons_zero, List.set_cons_succ])); (refine wpAnyT_take (i := 2) (v := ?_) rfl (by kernel_rfl) (by kernel_rfl) (by kernel_rfl) (by kernel_rfl) (by exact fun _ _ _ h => h) (Or.inl ⟨by kernel_rfl, ?_⟩) hS1 ?_; rotate_left 1; focus (intro w hSw; unfold RsS at hSw; (try dsimp only at hSw); go_simp; try with_reducible rfl); (try simp only [List.getElem_toArray, List.getElem_cons_zero, List.getElem_cons_succ, Act.put, List.setIfInBounds_toArray, List.set_cons_zero, List.set_cons_succ])); (refine wpAnyT_take (i := 3) (v := ?_) rfl (by kernel_rfl) (by kernel_rfl) (by kernel_rfl) (by kernel_rfl) (by exact fun _ _ _ h => h) (Or.inl ⟨by kernel_rfl, ?_⟩) hS1 ?_; rotate_left 1; focus (intro w hSw; unfold RsS at hSw; (try dsimp only at hSw); go_simp; try with_reducible rfl); (try simp only [List.getElem_toArray, List.getElem_cons_zero, List.getElem_cons_succ, Act.put, List.setIfInBounds_toArray, List.set_cons_zero, List.set_cons_succ])); (refine wpAnyT_take (i := 4) (v := ?_) rfl (by kernel_rfl) (by kernel_rfl) (by kernel_rfl) (by kernel_rfl) (by exact fun _ _ _ h => h) (Or.inl ⟨by kernel_rfl, ?_⟩) hS1 ?_; rotate_left 1; focus (intro w hSw; unfold RsS at hSw; (try dsimp only at hSw); go_simp; try with_reducible rfl); (try simp only [List.getElem_toArray, List.getElem_cons_zero, List.getElem_cons_succ, Act.put, List.setIfInBounds_toArray, List.set_cons_zero, List.set_cons_succ])); (refine wpAnyT_take (i := 5) (v := ?_) rfl (by kernel_rfl) (by kernel_rfl) (by kernel_rfl) (by kernel_rfl) (by exact fun _ _ _ h => h) (Or.inl ⟨by kernel_rfl, ?_⟩) hS1 ?_; rotate_left 1; focus (intro w hSw; unfold RsS at hSw; (try dsimp only at hSw); go_simp; try with_reducible rfl); (try simp only [List.getElem_toArray, List.getElem_cons_zero, List.getElem_cons_succ, Act.put, List.setIfInBounds_toArray, List.set_cons_zero, List.set_cons_succ])); (refine wpAnyT_take (i := 6) (v := ?_) rfl (by kernel_rfl) (by kernel_rfl) (by kernel_rfl) (by kernel_rfl) (by exact fun _ _ _ h => h) (Or.inl ⟨by kernel_rfl, ?_⟩) hS1 ?_; rotate_left 1; focus (intro w hSw; unfold RsS at hSw; (try dsimp only at hSw); go_simp; try with_reducible rfl); (try simp only [List.getElem_toArray, List.getElem_cons_zero, List.getElem_cons_succ, Act.put, List.setIfInBounds_toArray, List.set_cons_zero, List.set_cons_succ])); (refine wpAnyT_take (i := 7) (v := ?_) rfl (by kernel_rfl) (by kernel_rfl) (by kernel_rfl) (by kernel_rfl) (by exact fun _ _ _ h => h) (Or.inl ⟨by kernel_rfl, ?_⟩) hS1 ?_; rotate_left 1; focus (intro w hSw; unfold RsS at hSw; (try dsimp only at hSw); go_simp; try with_reducible rfl); (try simp only [List.getElem_toArray, List.getElem_cons_zero, List.getElem_cons_succ, Act.put, List.setIfInBounds_toArray, List.set_cons_zero, List.set_cons_succ])); (refine wpAnyT_take (i := 8) (v := ?_) rfl (by kernel_rfl) (by kernel_rfl) (by kernel_rfl) (by kernel_rfl) (by exact fun _ _ _ h => h) (Or.inl ⟨by kernel_rfl, ?_⟩) hS1 ?_; rotate_left 1; focus (intro w hSw; unfold RsS at hSw; (try dsimp only at hSw); go_simp; try with_reducible rfl); (try simp only [List.getElem_toArray, List.getElem_cons_zero, List.getElem_cons_succ, Act.put, List.setIfInBounds_toArray, List.set_cons_zero, List.set_cons_succ])); (refine wpAnyT_take (i := 9) (v := ?_) rfl (by kernel_rfl) (by kernel_rfl) (by kernel_rfl) (by kernel_rfl) (by exact fun _ _ _ h => h) (Or.inl ⟨by kernel_rfl, ?_⟩) hS1 ?_; rotate_left 1; focus (intro w hSw; unfold RsS at hSw; (try dsimp only at hSw); go_simp; try with_reducible rfl); (try simp only [List.getElem_toArray, List.getElem_cons_zero, List.getElem_cons_succ, Act.put, List.setIfInBounds_toArray, List.set_cons_zero, List.set_cons_succ])); (refine wpAnyT_take (i := 10) (v := ?_) rfl (by kernel_rfl) (by kernel_rfl) (by kernel_rfl) (by kernel_rfl) (by exact fun _ _ _ h => h) (Or.inl ⟨by kernel_rfl, ?_⟩) hS1 ?_; rotate_left 1; focus (intro w hSw; unfold RsS at hSw; (try dsimp only at hSw); go_simp; try with_reducible rfl); (try simp only [List.getElem_toArray, List.getElem_cons_zero, List.getElem_cons_succ, Act.put, List.setIfInBounds_toArray, List.set_cons_zero, List.set_cons_succ])); (refine wpAnyT_take (i := 11) (v := ?_) rfl (by kernel_rfl) (by kernel_rfl) (by kernel_rfl) (by kernel_rfl) (by exact fun _ _ _ h => h) (Or.inl ⟨by kernel_rfl, ?_⟩) hS1 ?_; rotate_left 1; focus (intro w hSw; unfold RsS at hSw; (try dsimp only at hSw); go_simp; try with_reducible rfl); (try simp only [List.getElem_toArray, List.getElem_cons_zero, List.getElem_cons_succ, Act.put, List.setIfInBounds_toArray, List.set_cons_zero, List.set_cons_succ])); (refine wpAnyT_take (i := 12) (v := ?_) rfl (by kernel_rfl) (by kernel_rfl) (by kernel_rfl) (by kernel_rfl) (by exact fun _ _ _ h => h) (Or.inl ⟨by kernel_rfl, ?_⟩) hS1 ?_; rotate_left 1; focus (intro w hSw; unfold RsS at hSw; (try dsimp only at hSw); go_simp; try with_reducible rfl); (try simp only [List.getElem_toArray, List.getElem_cons_zero, List.getElem_cons_succ, Act.put, List.setIfInBounds_toArray, List.set_cons_zero, List.set_cons_succ])); (refine wpAnyT_take (i := 13) (v := ?_) rfl (by kernel_rfl) (by kernel_rfl) (by kernel_rfl) (by kernel_rfl) (by exact fun _ _ _ h => h) (Or.inl ⟨by kernel_rfl, ?_⟩) hS1 ?_; rotate_left 1; focus (intro w hSw; unfold RsS at hSw; (try dsimp only at hSw); go_simp; try with_reducible rfl); (try simp only [List.getElem_toArray, List.getElem_cons_zero, List.getElem_cons_succ, Act.put, List.setIfInBounds_toArray, List.set_cons_zero, List.set_cons_succ])); (refine wpAnyT_take (i := 14) (v := ?_) rfl (by kernel_rfl) (by kernel_rfl) (by kernel_rfl) (by kernel_rfl) (by exact fun _ _ _ h => h) (Or.inl ⟨by kernel_rfl, ?_⟩) hS1 ?_; rotate_left 1; focus (intro w hSw; unfold RsS at hSw; (try dsimp only at hSw); go_simp; try with_reducible rfl); (try simp only [List.getElem_toArray, List.getElem_cons_zero, List.getElem_cons_succ, Act.put, List.setIfInBounds_toArray, List.set_cons_zero, List.set_cons_succ])); (refine wpAnyT_take (i := 15) (v := ?_) rfl (by kernel_rfl) (by kernel_rfl) (by kernel_rfl) (by kernel_rfl) (by exact fun _ _ _ h => h) (Or.inl ⟨by kernel_rfl, ?_⟩) hS1 ?_; rotate_left 1; focus (intro w hSw; unfold RsS at hSw; (try dsimp only at hSw); go_simp; try with_reducible rfl); (try simp only [List.getElem_toArray, List.getElem_cons_zero, List.getElem_cons_succ, Act.put, List.setIfInBounds_toArray, List.set_cons_zero, List.set_cons_succ])); (refine wpAnyT_take (i := 16) (v := ?_) rfl (by kernel_rfl) (by kernel_rfl) (by kernel_rfl) (by kernel_rfl) (by exact fun _ _ _ h => h) (Or.inl ⟨by kernel_rfl, ?_⟩) hS1 ?_; rotate_left 1; focus (intro w hSw; unfold RsS at hSw; (try dsimp only at hSw); go_simp; try with_reducible rfl); (try simp only [List.getElem_toArray, List.getElem_cons_zero, List.getElem_cons_succ, Act.put, List.setIfInBounds_toArray, List.set_cons_zero, List.set_cons_succ])); (refine wpAnyT_take (i := 17) (v := ?_) rfl (by kernel_rfl) (by kernel_rfl) (by kernel_rfl) (by kernel_rfl) (by exact fun _ _ _ h => h) (Or.inl ⟨by kernel_rfl, ?_⟩) hS1 ?_; rotate_left 1; focus (intro w hSw; unfold RsS at hSw; (try dsimp only at hSw); go_simp; try with_reducible rfl); (try simp only [List.getElem_toArray, List.getElem_cons_zero, List.getElem_cons_succ, Act.put, List.setIfInBounds_toArray, List.set_cons_zero, List.set_cons_succ])); (refine wpAnyT_take (i := 18) (v := ?_) rfl (by kernel_rfl) (by kernel_rfl) (by kernel_rfl) (by kernel_rfl) (by exact fun _ _ _ h => h) (Or.inl ⟨by kernel_rfl, ?_⟩) hS1 ?_; rotate_left 1; focus (intro w hSw; unfold RsS at hSw; (try dsimp only at hSw); go_simp; try with_reducible rfl); (try simp only [List.getElem_toArray, List.getElem_cons_zero, List.getElem_cons_succ, Act.put, List.setIfInBounds_toArray, List.set_cons_zero, List.set_cons_succ])); (refine wpAnyT_take (i := 19) (v := ?_) rfl (by kernel_rfl) (by kernel_rfl) (by kernel_rfl) (by kernel_rfl) (by exact fun _ _ _ h => h) (Or.inl ⟨by kernel_rfl, ?_⟩) hS1 ?_; rotate_left 1; focus (intro w hSw; unfold RsS at hSw; (try dsimp only at hSw); go_simp; try with_reducible rfl); (try simp only [List.getElem_toArray, List.getElem_cons_zero, List.getElem_cons_succ, Act.put, List.setIfInBounds_toArray, List.set_cons_zero, List.set_cons_succ])))
      ((refine wpAnyT_take (i := 20) (v := _) rfl (by kernel_rfl) (by kernel_rfl) (by kernel_rfl) (by kernel_rfl) (by exact fun _ _ _ h => h) (Or.inr ⟨by kernel_rfl, rfl⟩) hS1 ?_; (try simp only [List.getElem_toArray, List.getElem_cons_zero, List.getElem_cons_succ, Act.put, List.setIfInBounds_toArray, List.set_cons_zero, List.set_cons_succ])); (refine wpAnyT_take (i := 21) (v := _) rfl (by kernel_rfl) (by kernel_rfl) (by kernel_rfl) (by kernel_rfl) (by exact fun _ _ _ h => h) (Or.inr ⟨by kernel_rfl, rfl⟩) hS1 ?_; (try simp only [List.getElem_toArray, List.getElem_cons_zero, List.getElem_cons_succ, Act.put, List.setIfInBounds_toArray, List.set_cons_zero, List.set_cons_succ])); (refine wpAnyT_take (i := 22) (v := _) rfl (by kernel_rfl) (by kernel_rfl) (by kernel_rfl) (by kernel_rfl) (by exact fun _ _ _ h => h) (Or.inr ⟨by kernel_rfl, rfl⟩) hS1 ?_; (try simp only [List.getElem_toArray, List.getElem_cons_zero, List.getElem_cons_succ, Act.put, List.setIfInBounds_toArray, List.set_cons_zero, List.set_cons_succ])); (refine wpAnyT_take (i := 23) (v := _) rfl (by kernel_rfl) (by kernel_rfl) (by kernel_rfl) (by kernel_rfl) (by exact fun _ _ _ h => h) (Or.inr ⟨by kernel_rfl, rfl⟩) hS1 ?_; (try simp only [List.getElem_toArray, List.getElem_cons_zero, List.getElem_cons_succ, Act.put, List.setIfInBounds_toArray, List.set_cons_zero, List.set_cons_succ])); (refine wpAnyT_take (i := 24) (v := _) rfl (by kernel_rfl) (by kernel_rfl) (by kernel_rfl) (by kernel_rfl) (by exact fun _ _ _ h => h) (Or.inr ⟨by kernel_rfl, rfl⟩) hS1 ?_; (try simp only [List.getElem_toArray, List.getElem_cons_zero, List.getElem_cons_succ, Act.put, List.setIfInBounds_toArray, List.set_cons_zero, List.set_cons_succ])); (refine wpAnyT_take (i := 25) (v := _) rfl (by kernel_rfl) (by kernel_rfl) (by kernel_rfl) (by kernel_rfl) (by exact fun _ _ _ h => h) (Or.inr ⟨by kernel_rfl, rfl⟩) hS1 ?_; (try simp only [List.getElem_toArray, List.getElem_cons_zero, List.getElem_cons_succ, Act.put, List.setIfInBounds_toArray, List.set_cons_zero, List.set_cons_succ])))
      ((refine wpAnyT_take (i := 26) (v := ?_) rfl (by kernel_rfl) (by kernel_rfl) (by kernel_rfl) (by kernel_rfl) (by exact fun _ _ _ h => h) (Or.inl ⟨by kernel_rfl, ?_⟩) hS1 ?_; rotate_left 1; focus (intro w hSw; unfold RsS at hSw; (try dsimp only at hSw); go_simp; try with_reducible rfl); (try simp only [List.getElem_toArray, List.getElem_cons_zero, List.getElem_cons_succ, Act.put, List.setIfInBounds_toArray, List.set_cons_zero, List.set_cons_succ])); (refine wpAnyT_take (i := 27) (v := ?_) rfl (by kernel_rfl) (by kernel_rfl) (by kernel_rfl) (by kernel_rfl) (by exact fun _ _ _ h => h) (Or.inl ⟨by kernel_rfl, ?_⟩) hS1 ?_; rotate_left 1; focus (intro w hSw; unfold RsS at hSw; (try dsimp only at hSw); go_simp; try with_reducible rfl); (try simp only [List.getElem_toArray, List.getElem_cons_zero, List.getElem_cons_succ, Act.put, List.setIfInBounds_toArray, List.set_cons_zero, List.set_cons_succ])))
      refine wpAnyT_done (by kernel_rfl) ?_ _
      clear hS1
      have E2 := hid E1.out
      obtain ⟨wF, hwF⟩ : ∃ wF, wF = wA := ⟨_, rfl⟩
      rw [← hwF] at E1 E2 ⊢
      clear hwF
      have hL := r6.out.later E2.out
      have r8 := hid ((E2.out.block _ (lt_of_block r76.out)).trans r76.out)
      obtain ⟨b, o, cs9, rfl, hSb, hcell, hrd⟩ := RdL.at_ (i := 0) hL rfl
      obtain ⟨ta, tc, ua, uc, rfl, _⟩ := hrd.inv
      have hcc := hid (fun (j : Nat) (v : Value) (h : [Value.int .i64 xk, .int .i64 xn, .string xt, .slice ta xl.length tc, .slice ua xfv.length uc][j]? = some v) => hcell j v h)
      have hbb := hid hSb
      have X9 := hid (X6.out.later E2.out)
      replace hrd := hid hrd
      clear hcell hSb hL
      have hS9 : Hid (∀ x, Below wF.heap.size wF x → (SaS w3.heap.size b o (.int .i64 xk) (.int .i64 xn) (.string xt) (.slice ya xl.length yc) (.slice za xfv.length zc) (.int .i64 xk) (.int .i64 xn) (.string xt) (.slice ta xl.length tc) (.slice ua xfv.length uc)) x) := fun x h => by
        have e := (h.block _ (lt_of_block r8.out)).trans r8.out
        have hc : ∀ (j : Nat) (v : Value), [Value.int .i64 xk, .int .i64 xn, .string xt, .slice ta xl.length tc, .slice ua xfv.length uc][j]? = some v → x.cell? ⟨b, o + j, none⟩ = some v := fun j v hj => by
          have := hcc.out j v hj
          rw [Nat.zero_mul, Nat.add_zero] at this
          exact (h.cell (p := ⟨b, _, none⟩) hbb.out).trans this
        exact ⟨box_at (j := 0) e rfl, box_at (j := 1) e rfl, box_at (j := 2) e rfl, box_at (j := 3) e rfl, box_at (j := 4) e rfl, hc 0 _ rfl, hc 1 _ rfl, hc 2 _ rfl, hc 3 _ rfl, hc 4 _ rfl⟩
      clear hcc hbb r8
      go_upto_region 11 with fail
      refine wp_region_T (SaS w3.heap.size b o (.int .i64 xk) (.int .i64 xn) (.string xt) (.slice ya xl.length yc) (.slice za xfv.length zc) (.int .i64 xk) (.int .i64 xn) (.string xt) (.slice ta xl.length tc) (.slice ua xfv.length uc)) 10 (by kernel_rfl) ?_
      have hS0 := hS9.out _ (Below.refl wF.heap.size wF).drew
      ((refine wpAnyT_take (i := 0) (v := ?_) rfl (by kernel_rfl) (by kernel_rfl) (by kernel_rfl) (by kernel_rfl) (by exact fun _ _ _ h => h) (Or.inl ⟨by kernel_rfl, ?_⟩) hS0 ?_; rotate_left 1; focus (intro w hSw; unfold SaS at hSw; (try dsimp only at hSw); go_simp; try with_reducible rfl); (try simp only [List.getElem_toArray, List.getElem_cons_zero, List.getElem_cons_succ, Act.put, List.setIfInBounds_toArray, List.set_cons_zero, List.set_cons_succ])); (refine wpAnyT_take (i := 1) (v := ?_) rfl (by kernel_rfl) (by kernel_rfl) (by kernel_rfl) (by kernel_rfl) (by exact fun _ _ _ h => h) (Or.inl ⟨by kernel_rfl, ?_⟩) hS0 ?_; rotate_left 1; focus (intro w hSw; unfold SaS at hSw; (try dsimp only at hSw); go_simp; try with_reducible rfl); (try simp only [List.getElem_toArray, List.getElem_cons_zero, List.getElem_cons_succ, Act.put, List.setIfInBounds_toArray, List.set_cons_zero, List.set_cons_succ])); (refine wpAnyT_take (i := 2) (v := ?_) rfl (by kernel_rfl) (by kernel_rfl) (by kernel_rfl) (by kernel_rfl) (by exact fun _ _ _ h => h) (Or.inl ⟨by kernel_rfl, ?_⟩) hS0 ?_; rotate_left 1; focus (intro w hSw; unfold SaS at hSw; (try dsimp only at hSw); go_simp; try with_reducible rfl); (try simp only [List.getElem_toArray, List.getElem_cons_zero, List.getElem_cons_succ, Act.put, List.setIfInBounds_toArray, List.set_cons_zero, List.set_cons_succ])); (refine wpAnyT_take (i := 3) (v := ?_) rfl (by kernel_rfl) (by kernel_rfl) (by kernel_rfl) (by kernel_rfl) (by exact fun _ _ _ h => h) (Or.inl ⟨by kernel_rfl, ?_⟩) hS0 ?_; rotate_left 1; focus (intro w hSw; unfold SaS at hSw; (try dsimp only at hSw); go_simp; try with_reducible rfl); (try simp only [List.getElem_toArray, List.getElem_cons_zero, List.getElem_cons_succ, Act.put, List.setIfInBounds_toArray, List.set_cons_zero, List.set_cons_succ])); (refine wpAnyT_take (i := 4) (v := ?_) rfl (by kernel_rfl) (by kernel_rfl) (by kernel_rfl) (by kernel_rfl) (by exact fun _ _ _ h => h) (Or.inl ⟨by kernel_rfl, ?_⟩) hS0 ?_; rotate_left 1; focus (intro w hSw; unfold SaS at hSw; (try dsimp only at hSw); go_simp; try with_reducible rfl); (try simp only [List.getElem_toArray, List.getElem_cons_zero, List.getElem_cons_succ, Act.put, List.setIfInBounds_toArray, List.set_cons_zero, List.set_cons_succ])); (refine wpAnyT_take (i := 5) (v := ?_) rfl (by kernel_rfl) (by kernel_rfl) (by kernel_rfl) (by kernel_rfl) (by exact fun _ _ _ h => h) (Or.inl ⟨by kernel_rfl, ?_⟩) hS0 ?_; rotate_left 1; focus (intro w hSw; unfold SaS at hSw; (try dsimp only at hSw); go_simp; try with_reducible rfl); (try simp only [List.getElem_toArray, List.getElem_cons_zero, List.getElem_cons_succ, Act.put, List.setIfInBounds_toArray, List.set_cons_zero, List.set_cons_succ])); (refine wpAnyT_take (i := 6) (v := ?_) rfl (by kernel_rfl) (by kernel_rfl) (by kernel_rfl) (by kernel_rfl) (by exact fun _ _ _ h => h) (Or.inl ⟨by kernel_rfl, ?_⟩) hS0 ?_; rotate_left 1; focus (intro w hSw; unfold SaS at hSw; (try dsimp only at hSw); go_simp; try with_reducible rfl); (try simp only [List.getElem_toArray, List.getElem_cons_zero, List.getElem_cons_succ, Act.put, List.setIfInBounds_toArray, List.set_cons_zero, List.set_cons_succ])))
      refine wpAnyT_one (i := 7) (by kernel_rfl) rfl (fun K hK => ?_)
      go_simp
      refine (hsm.out _ _ _ _ (X9.out.later (Below.refl _ _).drew) (hrd.out.later (Below.refl _ _).drew)).mono ?_
      rintro e w8 ⟨rfl, h8⟩
      have E8 := hid ((Below.refl wF.heap.size wF).drew.step h8)
      clear h8 hS0
      have hS1 := hS9.out _ E8.out
      (refine hK.out _ _ (fun _ => hS1) (fun _ => ?_); clear hK K; (try simp only [Act.put, List.setIfInBounds_toArray, List.set_cons_zero, List.set_cons_succ]))
      ((refine wpAnyT_take (i := 8) (v := ?_) rfl (by kernel_rfl) (by kernel_rfl) (by kernel_rfl) (by kernel_rfl) (by exact fun _ _ _ h => h) (Or.inl ⟨by kernel_rfl, ?_⟩) hS1 ?_; rotate_left 1; focus (intro w hSw; unfold SaS at hSw; (try dsimp only at hSw); go_simp; try with_reducible rfl); (try simp only [List.getElem_toArray, List.getElem_cons_zero, List.getElem_cons_succ, Act.put, List.setIfInBounds_toArray, List.set_cons_zero, List.set_cons_succ])); (refine wpAnyT_take (i := 9) (v := ?_) rfl (by kernel_rfl) (by kernel_rfl) (by kernel_rfl) (by kernel_rfl) (by exact fun _ _ _ h => h) (Or.inl ⟨by kernel_rfl, ?_⟩) hS1 ?_; rotate_left 1; focus (intro w hSw; unfold SaS at hSw; (try dsimp only at hSw); go_simp; try with_reducible rfl); (try simp only [List.getElem_toArray, List.getElem_cons_zero, List.getElem_cons_succ, Act.put, List.setIfInBounds_toArray, List.set_cons_zero, List.set_cons_succ])))
      refine wpAnyT_done (by kernel_rfl) ?_ _
      go_wp2_with fail
      go_ret
      exact ⟨rfl, D6.out.step (E2.out.step E8.out)⟩
theorem single_card (V : PVal) (hm : V.mass ≤ 1073741824) {w : World} {cs : List Value} {bv : Value} {rs : List Int} (hT : Tabs w) (hV : Rd w (Now w) V cs) (hb : NumsAt .u8 w rs bv) (hl : rs.length ≤ 33554432) :
    Calls Tryd.prog 3 #[.agg cs.toArray, bv] w fun e w' => e = .returned (.bool true) ∧ Below w.heap.size w w' := by
  obtain ⟨l, h1, h2⟩ := bytes_of_nums hb
  exact single_calls V hm hT hV h1 (by omega)
end Go.Proofs.YtihcegakghmdfaaDoor
