/-
  Walk: the reference's back, fields.
-/
import Derived.Test.YtihcegakghmdfaaDoorMgKr5
import Derived.BigRegion
namespace Go.Proofs.YtihcegakghmdfaaDoor
open Go.RowKit Go.Proofs
theorem rd_drewF {w : World} {B : Nat} {V : PVal} {cs : List Value} (h : Rd w (From B w) V cs) : Rd w.drew (From B w.drew) V cs := @Rd.keep w w.drew (From B w) (From B w.drew) (fun _ hb => hb) (fun _ _ => rfl) V cs h
set_option maxRecDepth 100000 in
set_option maxHeartbeats 4000000 in
theorem rback5_fields {l : List UInt8} {bv : Value} (hl : l.length ≤ 17179869184) (d : Nat) (hd : d ≤ 9) (pR : List UInt8 → Option (PVal × Nat)) (ih : ∀ (w : World) (p : Nat), BytesAt w (Now w) l bv → p ≤ l.length → Calls Tryd.prog 65 #[bv, .int .i64 p, .int .i64 ((d : Int) + 1)] w (Back5 (pR (l.drop p)) p w)) (hpR : ∀ (L : List UInt8) (V : PVal) (c : Nat), pR L = some (V, c) → 1 ≤ c ∧ c ≤ L.length) {w : World} (p : Nat) (hb : BytesAt w (Now w) l bv) (_hp : p ≤ l.length) (R : Option (PVal × Nat)) (hR : R = headK true pR (l.drop p)) (k : UInt8) (hk : l[p]? = some k) (hz : 60 = k.toNat) :
    Calls Tryd.prog 65 #[bv, .int .i64 p, .int .i64 d] w (Back5 R p w) := by
  replace ih := hid ih
  replace hpR := hid hpR
  have hb0 := hid hb
  replace hR := hid hR
  have hut := hid (fun (w : World) (p : Nat) (hb : BytesAt w (Now w) l bv) (hp : p ≤ l.length) => runtext5_calls hb hl p hp)
  obtain ⟨a, cap, rfl, hc1, hc2, _⟩ := hb
  have e9 : IntKind.i64.wrap ((d : Int) + 1) = (d : Int) + 1 := IntWalk.i64_in _ (by omega)
  have d9 : decide (9 < (d : Int)) = false := decide_eq_false (by omega)
  have d9' : ¬ 9 < (d : Int) := by omega
  obtain ⟨W2, hW2⟩ : ∃ W2, W2 = (w.alloc (.cells #[.int .i64 0, .int .i64 0, .string ⟨#[]⟩, .slice none 0 0, .slice none 0 0] 25)).alloc (.cells #[.int .i64 0, .int .i64 0, .string ⟨#[]⟩, .slice none 0 0, .slice none 0 0] 25) := ⟨_, rfl⟩
  have D2 : Hid (Below w.heap.size w W2) := by show Below _ _ _; rw [hW2]; exact (below_new _ _).step (below_new _ _)
  have q6 : Hid (W2.heap[w.heap.size]? = some (.cells #[.int .i64 0, .int .i64 0, .string ⟨#[]⟩, .slice none 0 0, .slice none 0 0] 25 (0, 0))) := by rw [hW2]; exact al_old (al_at rfl)
  have q9 : Hid (W2.heap[w.heap.size + 1]? = some (.cells #[.int .i64 0, .int .i64 0, .string ⟨#[]⟩, .slice none 0 0, .slice none 0 0] 25 (0, 0))) := by rw [hW2]; exact al_at (by simp)
  have hkn : Hid (∀ k : Int, KB w W2.heap.size (W2.alloc (.cells #[.int .i64 k, .int .i64 0, .string ⟨#[]⟩, .slice none 0 0, .slice none 0 0] 25)) #[.int .i64 k, .int .i64 0, .string ⟨#[]⟩, .slice none 0 0, .slice none 0 0]) := fun k =>
    ⟨by rw [hW2]; simp, al_old q6.out, al_old q9.out, al_at rfl, D2.out.step (below_new _ _)⟩
  have hsz2 : Hid (W2.heap.size = w.heap.size + 1 + 1) := by show _ = _; rw [hW2]; simp
  have hlt : p < l.length := (List.getElem?_eq_some_iff.1 hk).1
  obtain ⟨b, off, rfl, hbS, hcell⟩ := bytes_cells hb0.out (fun h => by rw [h] at hlt; simp at hlt)
  have hcW : Hid (∀ (w' : World), Below w.heap.size w w' → ∀ (j : Nat) (c : UInt8), l[j]? = some c → w'.cell? ⟨b, off + j, none⟩ = some (.int .u8 c.toNat)) := fun w' h j c hc => (h.cell (p := ⟨b, _, none⟩) hbS).trans (hcell j c hc)
  have hdr : l.drop p = k :: l.drop (p + 1) := by rw [List.drop_eq_getElem_cons hlt, (List.getElem?_eq_some_iff.1 hk).2]
  have hcx := hcW.out W2 D2.out p k hk
  rw [hdr] at hR
  have i0 : (0 : Int) ≤ (p : Int) := by omega
  have i1 : (p : Int) < (l.length : Int) := by omega
  have i2 : ¬ (l.length : Int) ≤ (p : Int) := by omega
  have i2' : decide ((l.length : Int) ≤ (p : Int)) = false := decide_eq_false i2
  obtain ⟨z, hz0⟩ : ∃ z, z = k.toNat := ⟨_, rfl⟩
  rw [← hz0] at hcx
  have e5 : IntKind.i64.wrap ((p : Int) + 1) = ((p + 1 : Nat) : Int) := by rw [IntWalk.i64_in _ (by omega)]; omega
  have hzK : z = 60 := hz0.trans hz.symm
  have ez : IntKind.i64.wrap (z : Int) = z := IntWalk.i64_in _ (by omega)
  have j1 : decide ((z : Int) < 10) = false := decide_eq_false (by omega)
  have j1' : ¬ (z : Int) < 10 := by omega
  have j2 : decide (60 < (z : Int)) = false := decide_eq_false (by omega)
  have j2' : ¬ 60 < (z : Int) := by omega
  have j3 : Int.tdiv (z : Int) 10 = 6 := by rw [Int.tdiv_eq_ediv_of_nonneg (by omega)]; omega
  have j3' : (z : Int) / 10 = 6 := by omega
  have j4 : Int.tmod (z : Int) 10 = 0 := by rw [Int.tmod_eq_emod_of_nonneg (by omega)]; omega
  have j4' : (z : Int) % 10 = 0 := by omega
  clear hcell hdr hk hz0 hzK
  have hRR := hR.out.trans (headS_6 hz.symm)
  obtain ⟨G, hG⟩ : ∃ G, G = fieldsK true pR ((l.drop (p + 1)).length + 1) (l.drop (p + 1)) := ⟨_, rfl⟩
  rw [← hG] at hRR
  have hgo : Hid (GoF G [] 0 (fieldsK true pR ((l.length - (p + 1)) + 1) (l.drop (p + 1 + 0)))) := by
    show GoF _ _ _ _
    rw [← List.length_drop, Nat.add_zero, ← hG]
    exact goF_start G
  replace hRR := hid hRR
  clear hG hR
  have hbne : ¬ b = w.heap.size := fun e => by have := hbS; rw [e] at this; exact absurd this (Nat.lt_irrefl _)
  obtain ⟨i0, hi, hz0, hz1, hz2⟩ := info_parts info_kfld
  clear hz
  go_enter Tryd.func65, Tryd.ntmps65
  go_upto_region 2 with fail
  rw [← hW2]
  clear hW2
  go_upto_region 5 with fail
  obtain ⟨w4, hw4⟩ : ∃ w4, w4 = W2.alloc (.cells #[.int .i64 6, .int .i64 0, .string ⟨#[]⟩, .slice none 0 0, .slice none 0 0] 25) := ⟨_, rfl⟩
  have hk4 : Hid (KB w W2.heap.size w4 #[.int .i64 6, .int .i64 0, .string ⟨#[]⟩, .slice none 0 0, .slice none 0 0]) := by rw [hw4]; exact hkn.out 6
  rw [← hw4]
  clear hw4 hkn q6 q9 hcx hsz2
  have c0 := box_at (j := 0) hk4.out.r10 rfl
  go_wp2_with fail
  go_loopg [1] (l.length - (p + 1)) (fun gh at_ wr => ∃ (c f : Nat) (fs : Nfs) (vs : Value), gh = l.length - (p + 1 + c) ∧ p + 1 + c ≤ l.length ∧ fs.length ≤ c ∧ l.length - (p + 1 + c) ≤ f ∧ at_ = .int .i64 ((p + 1 + c : Nat) : Int) ∧ Hid (GoF G fs c (fieldsK true pR (f + 1) (l.drop (p + 1 + c)))) ∧ Hid (KB w W2.heap.size wr #[.int .i64 6, .int .i64 0, .string ⟨#[]⟩, .slice none 0 0, vs]) ∧ Hid (OwnG RdFl 6 (w.heap.size + 3) (w.heap.size + 3) 50 wr fs vs))
  case atStart => exact ⟨0, l.length - (p + 1), [], .slice none 0 0, by omega, by omega, by simp, by omega, rfl, hgo, hk4, OwnG.nil _⟩
  case round =>
    clear hgo hk4 c0
    obtain ⟨c, f, fs, vs, rfl, hcl, hxl, hf, rfl, hgo, hvr, hown⟩ := hrel
    replace hxl := hid hxl
    have e6 : IntKind.i64.wrap (((p + 1 + c : Nat) : Int) + 1) = ((p + 1 + c + 1 : Nat) : Int) := by rw [IntWalk.i64_in _ (by omega)]; omega
    have e6' : IntKind.i64.wrap ((p : Int) + 1 + (c : Int) + 1) = ((p + 1 + c + 1 : Nat) : Int) := by rw [IntWalk.i64_in _ (by omega)]; omega
    by_cases hlt2 : p + 1 + c < l.length
    · obtain ⟨x, hx⟩ : ∃ x, l[p + 1 + c]? = some x := ⟨_, List.getElem?_eq_getElem hlt2⟩
      have hd : l.drop (p + 1 + c) = x :: l.drop (p + 1 + c + 1) := by
        rw [List.drop_eq_getElem_cons hlt2, (List.getElem?_eq_some_iff.1 hx).2]
      rw [hd] at hgo
      have hcx := hcW.out wr hvr.out.low _ _ hx
      have k0 : (0 : Int) ≤ (p : Int) + 1 + (c : Int) := by omega
      have k1 : (p : Int) + 1 + (c : Int) < (l.length : Int) := by omega
      have tn1 : ((p : Int) + 1 + (c : Int)).toNat = p + 1 + c := by omega
      clear hd
      by_cases hx1 : x = 1
      · subst hx1
        obtain ⟨f', rfl⟩ : ∃ f', f = f' + 1 := ⟨f - 1, by omega⟩
        have hst := goW_step hgo.out
        have ht := hut.out wr (p + 1 + c + 1) (hb0.out.later hvr.out.low) (by omega)
        clear hx hgo
        have cA0 := box_at (j := 0) hvr.out.r10 rfl
        cases hT : txtK true (l.drop (p + 1 + c + 1)) with
        | none =>
          rw [hT] at hst ht
          have hno : Hid (R = none) := by show _ = _; rw [hRR.out, hst]; rfl
          replace ht := hid ht
          clear hT hst
          go_wp2_with fail
          refine ht.out.mono ?_
          rintro e w5 ⟨⟨s, y, rfl, hs⟩, h3⟩
          have hv5 := hid (hvr.out.later h3)
          clear cA0
          have g0 := box_at (j := 0) hv5.out.r6 rfl
          have g1 := box_at (j := 1) hv5.out.r6 rfl
          have g2 := box_at (j := 2) hv5.out.r6 rfl
          have g3 := box_at (j := 3) hv5.out.r6 rfl
          have g4 := box_at (j := 4) hv5.out.r6 rfl
          have gf := box_free hv5.out.r6
          have h0 := box_at (j := 0) hv5.out.r9 rfl
          have h1 := box_at (j := 1) hv5.out.r9 rfl
          have h2 := box_at (j := 2) hv5.out.r9 rfl
          have h3 := box_at (j := 3) hv5.out.r9 rfl
          have h4 := box_at (j := 4) hv5.out.r9 rfl
          go_wp2_with fail
          have hret := hid (hv5.out.ret (.int .i64 0) (.int .i64 0) (.string ⟨#[]⟩) (.slice none 0 0) (.slice none 0 0))
          unfold set5 at hret
          clear g0 g1 g2 g3 g4 gf h0 h1 h2 h3 h4
          generalize ((((w5.setCell ⟨w.heap.size, 0, none⟩ (.int .i64 0)).setCell ⟨w.heap.size, 1, none⟩ (.int .i64 0)).setCell ⟨w.heap.size, 2, none⟩ (.string ⟨#[]⟩)).setCell ⟨w.heap.size, 3, none⟩ (.slice none 0 0)).setCell ⟨w.heap.size, 4, none⟩ (.slice none 0 0) = w9 at *
          have z0 := box_at (j := 0) hret.out.2.1 rfl
          have z1 := box_at (j := 1) hret.out.2.1 rfl
          have z2 := box_at (j := 2) hret.out.2.1 rfl
          have z3 := box_at (j := 3) hret.out.2.1 rfl
          have z4 := box_at (j := 4) hret.out.2.1 rfl
          refine ⟨rfl, .tuple #[.agg #[.int .i64 0, .int .i64 0, .string ⟨#[]⟩, .slice none 0 0, .slice none 0 0], .int .i64 0, .bool false], by simp [results, Tryd.results65, go_sem, z0, z1, z2, z3, z4], ?_⟩
          exact back5_none hno.out hret.out.1 (V := zeroK) (cs := [.int .i64 0, .int .i64 0, .string ⟨#[]⟩, .slice none 0 0, .slice none 0 0]) rd_zeroK
        | some q =>
        obtain ⟨nm, i⟩ := q
        have htl := txtK_le true _ _ _ hT
        rw [List.length_drop] at htl
        have hns : Hid ((⟨nm.toArray⟩ : ByteArray).size ≤ 140737488355328) := by
          show _ ≤ _
          have h1 : (⟨nm.toArray⟩ : ByteArray).size = nm.length := by simp [ByteArray.size]
          omega
        rw [hT] at hst ht
        simp only at hst
        rw [List.drop_drop] at hst
        replace ht := hid ht
        clear hT
        go_wp2_with fail
        refine ht.out.mono ?_
        rintro e w5 ⟨rfl, h3⟩
        have hv5 := hid (hvr.out.later h3)
        have hown5 := hid (hown.out.later fldRel h3)
        have hc := ih.out w5 (p + 1 + c + 1 + i) (hb0.out.later hv5.out.low) (by omega)
        clear cA0 hown hvr h3 hcx
        have cA0 := box_at (j := 0) hv5.out.r10 rfl
        cases hp : pR (l.drop (p + 1 + c + 1 + i)) with
        | none =>
          rw [hp] at hst hc
          have hno : Hid (R = none) := by show _ = _; rw [hRR.out, hst]; rfl
          replace hc := hid hc
          clear hp hst
          go_wp2_with fail
          refine hc.out.mono ?_
          rintro e w6 ⟨h6, V, cs6, y, rfl, hr6⟩
          obtain ⟨xk, xn, xt, xl, xfn, xfv⟩ := V
          obtain ⟨ya, yc, za, zc, rfl, _⟩ := hr6.inv
          have hv7 := hid (hv5.out.later (h6.step (below_new w6 (.cells #[.int .i64 xk, .int .i64 xn, .string xt, .slice ya xl.length yc, .slice za xfv.length zc] 25))))
          clear cA0
          go_upto_region 39 with fail
          generalize w6.alloc (.cells #[.int .i64 xk, .int .i64 xn, .string xt, .slice ya xl.length yc, .slice za xfv.length zc] 25) = w7 at *
          have g0 := box_at (j := 0) hv7.out.r6 rfl
          have g1 := box_at (j := 1) hv7.out.r6 rfl
          have g2 := box_at (j := 2) hv7.out.r6 rfl
          have g3 := box_at (j := 3) hv7.out.r6 rfl
          have g4 := box_at (j := 4) hv7.out.r6 rfl
          have gf := box_free hv7.out.r6
          have h0 := box_at (j := 0) hv7.out.r9 rfl
          have h1 := box_at (j := 1) hv7.out.r9 rfl
          have h2 := box_at (j := 2) hv7.out.r9 rfl
          have h3 := box_at (j := 3) hv7.out.r9 rfl
          have h4 := box_at (j := 4) hv7.out.r9 rfl
          go_wp2_with fail
          have hret := hid (hv7.out.ret (.int .i64 0) (.int .i64 0) (.string ⟨#[]⟩) (.slice none 0 0) (.slice none 0 0))
          unfold set5 at hret
          clear g0 g1 g2 g3 g4 gf h0 h1 h2 h3 h4
          generalize ((((w7.setCell ⟨w.heap.size, 0, none⟩ (.int .i64 0)).setCell ⟨w.heap.size, 1, none⟩ (.int .i64 0)).setCell ⟨w.heap.size, 2, none⟩ (.string ⟨#[]⟩)).setCell ⟨w.heap.size, 3, none⟩ (.slice none 0 0)).setCell ⟨w.heap.size, 4, none⟩ (.slice none 0 0) = w9 at *
          have z0 := box_at (j := 0) hret.out.2.1 rfl
          have z1 := box_at (j := 1) hret.out.2.1 rfl
          have z2 := box_at (j := 2) hret.out.2.1 rfl
          have z3 := box_at (j := 3) hret.out.2.1 rfl
          have z4 := box_at (j := 4) hret.out.2.1 rfl
          refine ⟨rfl, .tuple #[.agg #[.int .i64 0, .int .i64 0, .string ⟨#[]⟩, .slice none 0 0, .slice none 0 0], .int .i64 0, .bool false], by simp [results, Tryd.results65, go_sem, z0, z1, z2, z3, z4], ?_⟩
          exact back5_none hno.out hret.out.1 (V := zeroK) (cs := [.int .i64 0, .int .i64 0, .string ⟨#[]⟩, .slice none 0 0, .slice none 0 0]) rd_zeroK
        | some q =>
          obtain ⟨x, k⟩ := q
          have hpk := hpR.out _ _ _ hp
          rw [List.length_drop] at hpk
          rw [hp] at hst hc
          simp only at hst
          rw [List.drop_drop] at hst
          replace hst := hid hst
          replace hc := hid hc
          clear hp
          obtain ⟨xk, xn, xt, xl, xfn, xfv⟩ := x
          go_wp2_with fail
          refine hc.out.mono ?_
          rintro e w6 ⟨h6, cs6, rfl, hr6⟩
          obtain ⟨ya, yc, za, zc, rfl, _⟩ := hr6.inv
          have hv7 := hid (hv5.out.later (h6.step (below_new w6 (.cells #[.int .i64 xk, .int .i64 xn, .string xt, .slice ya xl.length yc, .slice za xfv.length zc] 25))))
          have hown7 := hid (hown5.out.later fldRel (h6.step (below_new w6 (.cells #[.int .i64 xk, .int .i64 xn, .string xt, .slice ya xl.length yc, .slice za xfv.length zc] 25))))
          have r21 := hid (heap_alloc_new w6 (.cells #[.int .i64 xk, .int .i64 xn, .string xt, .slice ya xl.length yc, .slice za xfv.length zc] 25))
          have hX7 : Hid (Rd (w6.alloc (.cells #[.int .i64 xk, .int .i64 xn, .string xt, .slice ya xl.length yc, .slice za xfv.length zc] 25)) (Apart (w.heap.size + 3) (w6.alloc (.cells #[.int .i64 xk, .int .i64 xn, .string xt, .slice ya xl.length yc, .slice za xfv.length zc] 25)) vs) (.mk xk xn xt xl xfn xfv) [.int .i64 xk, .int .i64 xn, .string xt, .slice ya xl.length yc, .slice za xfv.length zc]) :=
            hr6.keep (fun b hb => ⟨by have := hb.1; have := hv5.out.size; omega, by have := hb.2; simp; omega, fun e => by have := (hown5.out.lt b e).2; have := hb.1; omega⟩) (fun b hb => (below_new w6 (.cells #[.int .i64 xk, .int .i64 xn, .string xt, .slice ya xl.length yc, .slice za xfv.length zc] 25)).block b hb.2)
          have hB7 : Hid (w.heap.size + 3 ≤ (w6.alloc (.cells #[.int .i64 xk, .int .i64 xn, .string xt, .slice ya xl.length yc, .slice za xfv.length zc] 25)).heap.size) := hv7.out.size
          clear cA0 hr6 h6 hown5
          go_upto_region 41 with fail
          obtain ⟨w7, hw7⟩ : ∃ w7, w7 = w6.alloc (.cells #[.int .i64 xk, .int .i64 xn, .string xt, .slice ya xl.length yc, .slice za xfv.length zc] 25) := ⟨_, rfl⟩
          rw [← hw7] at hv7 hown7 r21 hX7 hB7 ⊢
          clear hw7
          have t0 := box_at (j := 0) r21.out rfl
          have t1 := box_at (j := 1) r21.out rfl
          have t2 := box_at (j := 2) r21.out rfl
          have t3 := box_at (j := 3) r21.out rfl
          have t4 := box_at (j := 4) r21.out rfl
          have cA0 := box_at (j := 0) hv7.out.r10 rfl
          have cA4 := box_at (j := 4) hv7.out.r10 rfl
          have hv8 := hid (hv7.out.later (below_new w7 (.cells #[.string ⟨nm.toArray⟩, .int .i64 xk, .int .i64 xn, .string xt, .slice ya xl.length yc, .slice za xfv.length zc] 50)))
          have hown8 := hid (hown7.out.later fldRel (below_new w7 (.cells #[.string ⟨nm.toArray⟩, .int .i64 xk, .int .i64 xn, .string xt, .slice ya xl.length yc, .slice za xfv.length zc] 50)))
          have hX8 : Hid (RdFl (w7.alloc (.cells #[.string ⟨nm.toArray⟩, .int .i64 xk, .int .i64 xn, .string xt, .slice ya xl.length yc, .slice za xfv.length zc] 50)) (Apart (w.heap.size + 3) (w7.alloc (.cells #[.string ⟨nm.toArray⟩, .int .i64 xk, .int .i64 xn, .string xt, .slice ya xl.length yc, .slice za xfv.length zc] 50)) vs) ((⟨nm.toArray⟩ : ByteArray), .mk xk xn xt xl xfn xfv) [.string ⟨nm.toArray⟩, .int .i64 xk, .int .i64 xn, .string xt, .slice ya xl.length yc, .slice za xfv.length zc]) :=
            ⟨_, rfl, hns.out, hX7.out.keep (fun b hb => ⟨hb.1, by have := hb.2.1; simp; omega, hb.2.2⟩) (fun b hb => (below_new w7 (.cells #[.string ⟨nm.toArray⟩, .int .i64 xk, .int .i64 xn, .string xt, .slice ya xl.length yc, .slice za xfv.length zc] 50)).block b hb.2.1)⟩
          have hB8 : Hid (w.heap.size + 3 ≤ (w7.alloc (.cells #[.string ⟨nm.toArray⟩, .int .i64 xk, .int .i64 xn, .string xt, .slice ya xl.length yc, .slice za xfv.length zc] 50)).heap.size) := hv8.out.size
          go_wp2_with (first
            | (at_builtin; (refine wpList_append_g fldRel _ rfl _ _ 23 rfl (w.heap.size + 3) (w.heap.size + 3) 50 96 i0 _ Tryd.underlying23 hi hz0 hz1 hz2 rfl (by decide) fs vs rfl hown8.out ⟨w7.heap.size, 0, none⟩ 1 [.string ⟨nm.toArray⟩, .int .i64 xk, .int .i64 xn, .string xt, .slice ya xl.length yc, .slice za xfv.length zc] (⟨nm.toArray⟩, .mk xk xn xt xl xfn xfv) rfl (cells_new _ _ rfl _ _) hX8.out (by have := hxl.out; omega) (by have := hxl.out; unfold maxLen; omega) hB8.out ?_); intro v9 w9 hown9 hg9 hlow9 hst9; obtain ⟨a9, m9, n9, rfl⟩ := own_sliceK hown9; have hb9 := hid (grown_from hown8.out hg9 hB8.out); have hv9 := hid (hv8.out.grow hb9.out); have cA4 := box_at (j := 4) hv9.out.r10 rfl; have fA := box_free hv9.out.r10))
          have hv10 := hid (hv9.out.set 4 (.slice a9 m9 n9))
          have hTT := hid hv9.out.tl
          have ho10 := hid (hown9.box fldRel ⟨W2.heap.size, 4, none⟩ (.slice a9 m9 n9) (fun e => absurd (hown9.lt _ e).1 (by show ¬ (w.heap.size + 3 ≤ W2.heap.size); have := hTT.out; omega)) (by show W2.heap.size < w.heap.size + 3; have := hTT.out; omega))
          clear cA4 fA
          generalize w9.setCell ⟨W2.heap.size, 4, none⟩ (.slice a9 m9 n9) = w10 at *
          replace hv10 : Hid (KB w W2.heap.size w10 #[.int .i64 6, .int .i64 0, .string ⟨#[]⟩, .slice none 0 0, .slice a9 m9 n9]) := hv10
          go_roundg (l.length - (p + 1 + (c + 1 + i + k)))
          case measure => omega
          case rel => exact ⟨c + 1 + i + k, f', _, .slice a9 m9 n9, rfl, by omega, by have := hxl.out; simp; omega, by omega, by go_num, by rw [show p + 1 + (c + 1 + i + k) = p + 1 + c + 1 + (i + k) by omega]; exact hst, hv10, ho10⟩
      · have hn1 : ((x.toNat : Int) == 1) = false := by
          have : x.toNat ≠ 1 := fun e => hx1 (UInt8.toNat_inj.1 e)
          simp; omega
        by_cases hx0 : x = 0
        · subst hx0
          have hyes : Hid (R = some (.mk 6 0 ByteArray.empty [] (fs.map Prod.fst) (fs.map Prod.snd), 1 + (c + 1))) := by show _ = _; rw [hRR.out, goW_end hgo.out rfl]; rfl
          clear hgo hx
          obtain ⟨a9, n9, rfl, _⟩ := hown.out.form
          have hV := hid (rd_mk (k := 6) (n := 0) (s := ByteArray.empty) (l := []) ⟨by decide, by decide⟩ ⟨by decide, by decide⟩ (by decide) rdL_nil (hown.out.readF (S := From (w.heap.size + 1) wr) (fun b hb => ⟨by have := (hown.out.lt b hb).1; omega, (hown.out.lt b hb).2⟩) (fun b hb => ⟨by have := hb.1; omega, hb.2.1⟩) (by have := hxl.out; omega)))
          have c60 := box_at (j := 0) hvr.out.r6 rfl
          have c61 := box_at (j := 1) hvr.out.r6 rfl
          have c62 := box_at (j := 2) hvr.out.r6 rfl
          have c63 := box_at (j := 3) hvr.out.r6 rfl
          have c64 := box_at (j := 4) hvr.out.r6 rfl
          have c90 := box_at (j := 0) hvr.out.r9 rfl
          have c91 := box_at (j := 1) hvr.out.r9 rfl
          have c92 := box_at (j := 2) hvr.out.r9 rfl
          have c93 := box_at (j := 3) hvr.out.r9 rfl
          have c94 := box_at (j := 4) hvr.out.r9 rfl
          have cA0 := box_at (j := 0) hvr.out.r10 rfl
          have cA1 := box_at (j := 1) hvr.out.r10 rfl
          have cA2 := box_at (j := 2) hvr.out.r10 rfl
          have cA3 := box_at (j := 3) hvr.out.r10 rfl
          have cA4 := box_at (j := 4) hvr.out.r10 rfl
          have f6 := box_free hvr.out.r6
          have fA := box_free hvr.out.r10
          go_upto_region 44 with fail
          go_region
          all_goals go_wp2_with fail
          all_goals (
            have hret := hid (hvr.out.ret (.int .i64 6) (.int .i64 0) (.string ⟨#[]⟩) (.slice none 0 0) (.slice a9 fs.length n9))
            unfold set5 at hret
            clear c60 c61 c62 c63 c64 c90 c91 c92 c93 c94 cA0 cA1 cA2 cA3 cA4 f6 fA
            generalize ((((wr.setCell ⟨w.heap.size, 0, none⟩ (.int .i64 6)).setCell ⟨w.heap.size, 1, none⟩ (.int .i64 0)).setCell ⟨w.heap.size, 2, none⟩ (.string ⟨#[]⟩)).setCell ⟨w.heap.size, 3, none⟩ (.slice none 0 0)).setCell ⟨w.heap.size, 4, none⟩ (.slice a9 fs.length n9) = w9 at *
            have z0 := box_at (j := 0) hret.out.2.1 rfl
            have z1 := box_at (j := 1) hret.out.2.1 rfl
            have z2 := box_at (j := 2) hret.out.2.1 rfl
            have z3 := box_at (j := 3) hret.out.2.1 rfl
            have z4 := box_at (j := 4) hret.out.2.1 rfl
            refine ⟨rfl, .tuple #[.agg #[.int .i64 6, .int .i64 0, .string ⟨#[]⟩, .slice none 0 0, .slice a9 fs.length n9], .int .i64 ((p + 1 + c + 1 : Nat) : Int), .bool true], by simp [results, Tryd.results65, go_sem, z0, z1, z2, z3, z4], ?_⟩
            exact back5_some hyes.out (by omega) hret.out.1.drew (cs := [.int .i64 6, .int .i64 0, .string ⟨#[]⟩, .slice none 0 0, .slice a9 fs.length n9]) (rd_drewF (hret.out.2.2 _ _ hV.out)))
        · have hno : Hid (R = none) := by show _ = _; rw [hRR.out, goW_bad hgo.out hx0 hx1]; rfl
          have hn0 : ((x.toNat : Int) == 0) = false := by
            have : x.toNat ≠ 0 := fun e => hx0 (UInt8.toNat_inj.1 e)
            simp; omega
          clear hgo hx
          obtain ⟨a9, n9, rfl, _⟩ := hown.out.form
          have hV := hid (rd_mk (k := 6) (n := 0) (s := ByteArray.empty) (l := []) ⟨by decide, by decide⟩ ⟨by decide, by decide⟩ (by decide) rdL_nil (hown.out.readF (S := From (w.heap.size + 1) wr) (fun b hb => ⟨by have := (hown.out.lt b hb).1; omega, (hown.out.lt b hb).2⟩) (fun b hb => ⟨by have := hb.1; omega, hb.2.1⟩) (by have := hxl.out; omega)))
          have c60 := box_at (j := 0) hvr.out.r6 rfl
          have c61 := box_at (j := 1) hvr.out.r6 rfl
          have c62 := box_at (j := 2) hvr.out.r6 rfl
          have c63 := box_at (j := 3) hvr.out.r6 rfl
          have c64 := box_at (j := 4) hvr.out.r6 rfl
          have c90 := box_at (j := 0) hvr.out.r9 rfl
          have c91 := box_at (j := 1) hvr.out.r9 rfl
          have c92 := box_at (j := 2) hvr.out.r9 rfl
          have c93 := box_at (j := 3) hvr.out.r9 rfl
          have c94 := box_at (j := 4) hvr.out.r9 rfl
          have cA0 := box_at (j := 0) hvr.out.r10 rfl
          have cA1 := box_at (j := 1) hvr.out.r10 rfl
          have cA2 := box_at (j := 2) hvr.out.r10 rfl
          have cA3 := box_at (j := 3) hvr.out.r10 rfl
          have cA4 := box_at (j := 4) hvr.out.r10 rfl
          have f6 := box_free hvr.out.r6
          have fA := box_free hvr.out.r10
          go_upto_region 44 with fail
          go_region
          all_goals go_wp2_with fail
          all_goals (
            have hret := hid (hvr.out.ret (.int .i64 6) (.int .i64 0) (.string ⟨#[]⟩) (.slice none 0 0) (.slice a9 fs.length n9))
            unfold set5 at hret
            clear c60 c61 c62 c63 c64 c90 c91 c92 c93 c94 cA0 cA1 cA2 cA3 cA4 f6 fA
            generalize ((((wr.setCell ⟨w.heap.size, 0, none⟩ (.int .i64 6)).setCell ⟨w.heap.size, 1, none⟩ (.int .i64 0)).setCell ⟨w.heap.size, 2, none⟩ (.string ⟨#[]⟩)).setCell ⟨w.heap.size, 3, none⟩ (.slice none 0 0)).setCell ⟨w.heap.size, 4, none⟩ (.slice a9 fs.length n9) = w9 at *
            have z0 := box_at (j := 0) hret.out.2.1 rfl
            have z1 := box_at (j := 1) hret.out.2.1 rfl
            have z2 := box_at (j := 2) hret.out.2.1 rfl
            have z3 := box_at (j := 3) hret.out.2.1 rfl
            have z4 := box_at (j := 4) hret.out.2.1 rfl
            refine ⟨rfl, .tuple #[.agg #[.int .i64 6, .int .i64 0, .string ⟨#[]⟩, .slice none 0 0, .slice a9 fs.length n9], .int .i64 ((p + 1 + c + 1 : Nat) : Int), .bool false], by simp [results, Tryd.results65, go_sem, z0, z1, z2, z3, z4], ?_⟩
            exact back5_none hno.out hret.out.1.drew (cs := [.int .i64 6, .int .i64 0, .string ⟨#[]⟩, .slice none 0 0, .slice a9 fs.length n9]) (rd_drewF (hret.out.2.2 _ _ hV.out)))
    · have hno : Hid (R = none) := by show _ = _; rw [List.drop_eq_nil_of_le (by omega)] at hgo; rw [hRR.out, goW_nil hgo.out]; rfl
      have k1 : ¬ (p : Int) + 1 + (c : Int) < (l.length : Int) := by omega
      have k1' : decide ((p : Int) + 1 + (c : Int) < (l.length : Int)) = false := decide_eq_false k1
      clear hgo
      obtain ⟨a9, n9, rfl, _⟩ := hown.out.form
      have hV := hid (rd_mk (k := 6) (n := 0) (s := ByteArray.empty) (l := []) ⟨by decide, by decide⟩ ⟨by decide, by decide⟩ (by decide) rdL_nil (hown.out.readF (S := From (w.heap.size + 1) wr) (fun b hb => ⟨by have := (hown.out.lt b hb).1; omega, (hown.out.lt b hb).2⟩) (fun b hb => ⟨by have := hb.1; omega, hb.2.1⟩) (by have := hxl.out; omega)))
      have c60 := box_at (j := 0) hvr.out.r6 rfl
      have c61 := box_at (j := 1) hvr.out.r6 rfl
      have c62 := box_at (j := 2) hvr.out.r6 rfl
      have c63 := box_at (j := 3) hvr.out.r6 rfl
      have c64 := box_at (j := 4) hvr.out.r6 rfl
      have c90 := box_at (j := 0) hvr.out.r9 rfl
      have c91 := box_at (j := 1) hvr.out.r9 rfl
      have c92 := box_at (j := 2) hvr.out.r9 rfl
      have c93 := box_at (j := 3) hvr.out.r9 rfl
      have c94 := box_at (j := 4) hvr.out.r9 rfl
      have cA0 := box_at (j := 0) hvr.out.r10 rfl
      have cA1 := box_at (j := 1) hvr.out.r10 rfl
      have cA2 := box_at (j := 2) hvr.out.r10 rfl
      have cA3 := box_at (j := 3) hvr.out.r10 rfl
      have cA4 := box_at (j := 4) hvr.out.r10 rfl
      have f6 := box_free hvr.out.r6
      have fA := box_free hvr.out.r10
      go_upto_region 44 with fail
      go_region
      all_goals go_wp2_with fail
      all_goals (
        have hret := hid (hvr.out.ret (.int .i64 6) (.int .i64 0) (.string ⟨#[]⟩) (.slice none 0 0) (.slice a9 fs.length n9))
        unfold set5 at hret
        clear c60 c61 c62 c63 c64 c90 c91 c92 c93 c94 cA0 cA1 cA2 cA3 cA4 f6 fA
        generalize ((((wr.setCell ⟨w.heap.size, 0, none⟩ (.int .i64 6)).setCell ⟨w.heap.size, 1, none⟩ (.int .i64 0)).setCell ⟨w.heap.size, 2, none⟩ (.string ⟨#[]⟩)).setCell ⟨w.heap.size, 3, none⟩ (.slice none 0 0)).setCell ⟨w.heap.size, 4, none⟩ (.slice a9 fs.length n9) = w9 at *
        have z0 := box_at (j := 0) hret.out.2.1 rfl
        have z1 := box_at (j := 1) hret.out.2.1 rfl
        have z2 := box_at (j := 2) hret.out.2.1 rfl
        have z3 := box_at (j := 3) hret.out.2.1 rfl
        have z4 := box_at (j := 4) hret.out.2.1 rfl
        refine ⟨rfl, .tuple #[.agg #[.int .i64 6, .int .i64 0, .string ⟨#[]⟩, .slice none 0 0, .slice a9 fs.length n9], .int .i64 ((p + 1 + c + 1 : Nat) : Int), .bool false], by simp [results, Tryd.results65, go_sem, z0, z1, z2, z3, z4], ?_⟩
        exact back5_none hno.out hret.out.1.drew (cs := [.int .i64 6, .int .i64 0, .string ⟨#[]⟩, .slice none 0 0, .slice a9 fs.length n9]) (rd_drewF (hret.out.2.2 _ _ hV.out)))
end Go.Proofs.YtihcegakghmdfaaDoor
