/-
  Walks: the reference's Good, cmp, Strings, More, First.
-/
import Derived.Test.YtdjegpmjhfbamaaDoorRef5
import Derived.Test.YtdjegpmjhfbamaaDoorRef8
namespace Go.Proofs.YtdjegpmjhfbamaaDoor
open Go.RowKit Go.Proofs

theorem size_enc (V : PVal) : V.fits → V.size = V.enc.length := by
  induction V using PVal.ind with
  | h k n s l fn fv hl hf =>
    intro h
    simp only [PVal.fits, fitsL_iff] at h
    obtain ⟨hk, hn, hs, hfn, hlen, hll, hfl, hL, hF⟩ := h
    have e1 : ∀ l : List PVal, (∀ x ∈ l, x.size = x.enc.length) → sizeL l = (encL l).length := by
      intro l
      induction l with
      | nil => intro _; rfl
      | cons y r ih =>
        intro h
        have := h y (by simp)
        have := ih (fun x hx => h x (by simp [hx]))
        simp only [encL, sizeL, List.length_append]
        omega
    have e2 : ∀ (fn : List ByteArray) (fv : List PVal), fn.length = fv.length → (∀ x ∈ fv, x.size = x.enc.length) → namesSize fn + sizeL fv = (encF fn fv).length := by
      intro fn
      induction fn with
      | nil =>
        intro fv h0 _
        cases fv with
        | nil => rfl
        | cons _ _ => simp at h0
      | cons a r ih =>
        intro fv h0 h
        cases fv with
        | nil => simp at h0
        | cons y r' =>
          have h1 := h y (by simp)
          have h2 := ih r' (by simpa using h0) (fun x hx => h x (by simp [hx]))
          simp only [encF, sizeL, namesSize, List.length_append, varint_length]
          have : a.data.toList.length = a.size := by simp
          omega
    have h1 := e1 l (fun x hx => hl x hx (hL x hx))
    have h2 := e2 fn fv hlen (fun x hx => hf x hx (hF x hx))
    have hsz : s.data.toList.length = s.size := by simp
    simp only [PVal.enc, PVal.size, List.length_cons]
    split
    · simp
    split
    · rw [varint_length]; omega
    split
    · rw [List.length_append, varint_length]; omega
    split
    · rw [List.length_append, varint_length]; omega
    split
    · rw [List.length_append, varint_length]; omega
    · simp

set_option maxRecDepth 100000 in
set_option maxHeartbeats 4000000 in
theorem rgood_calls (V : PVal) (hN : V.nodes ≤ 20000) (hm : V.mass ≤ 1073741824) (w : World) (cs : List Value) (hV : Rd w (Now w) V cs) :
    Calls Tryd.prog 42 #[.agg cs.toArray] w fun e w' => e = .returned (.int .i64 V.good) ∧ Below w.heap.size w w' := by
  have g1 := hid (fun w cs h => shape_calls V w cs h)
  have g2 := hid (fun w cs h => texts_calls V w cs hm h)
  have g3 := hid (fun w cs h => rfew_calls V w cs h)
  have g4 := hid (fun w cs h => rdepth_calls V w cs hN h)
  have hel := enc_le V hV.fits
  have g5 := hid (fun w cs h => rbytes_calls V w cs (by omega) h)
  have hse := size_enc V hV.fits
  have hd0 := depth_le_nodes V
  have hR : V.good = if V.all formedB = false then 4 else if V.all spelledB = false then 11 else if V.all fewB = false then 15 else if 8 < V.depth then 3 else if 2048 < V.enc.length then 2 else 0 := by rw [← hse]; rfl
  have hen : V.enc ≠ [] := by obtain ⟨k, n, s, l, fn, fv⟩ := V; simp [PVal.enc]
  generalize V.good = R at *
  generalize V.all formedB = b1 at *
  generalize V.all spelledB = b2 at *
  generalize V.all fewB = b3 at *
  generalize V.depth = d at *
  generalize V.enc = en at *
  replace hR := hid hR
  replace hen := hid hen
  clear hse
  have hV0 := hid hV
  obtain ⟨k, n, s, l, fn, fv⟩ := V
  obtain ⟨la, lc, fa, fc, rfl, _⟩ := hV.inv
  clear hV
  go_enter Tryd.func42, Tryd.ntmps42
  go_wp2_with fail
  refine (g1.out _ _ (hV0.out.later (below_new _ _))).mono ?_
  rintro e w1 ⟨rfl, hb1⟩
  have N := hid hb1
  have a0 := box_cell (j := 0) N.out rfl
  have a1 := box_cell (j := 1) N.out rfl
  have a2 := box_cell (j := 2) N.out rfl
  have a3 := box_cell (j := 3) N.out rfl
  have a4 := box_cell (j := 4) N.out rfl
  cases b1 with
  | false =>
    replace hR : Hid (R = 4) := hR.out.trans (if_pos rfl)
    go_wp2_with fail
    go_ret
    exact ⟨by rw [hR.out]; rfl, (below_new _ _).step N.out⟩
  | true =>
  replace hR : Hid _ := hid (hR.out.trans (if_neg (by decide)))
  go_wp2_with fail
  refine (g2.out _ _ (hV0.out.later ((below_new _ _).step N.out))).mono ?_
  rintro e w2 ⟨rfl, hb⟩
  replace N := hid (N.out.step hb)
  clear a0 a1 a2 a3 a4
  have a0 := box_cell (j := 0) N.out rfl
  have a1 := box_cell (j := 1) N.out rfl
  have a2 := box_cell (j := 2) N.out rfl
  have a3 := box_cell (j := 3) N.out rfl
  have a4 := box_cell (j := 4) N.out rfl
  cases b2 with
  | false =>
    replace hR : Hid (R = 11) := hR.out.trans (if_pos rfl)
    go_wp2_with fail
    go_ret
    exact ⟨by rw [hR.out]; rfl, (below_new _ _).step N.out⟩
  | true =>
  replace hR : Hid _ := hid (hR.out.trans (if_neg (by decide)))
  go_wp2_with fail
  refine (g3.out _ _ (hV0.out.later ((below_new _ _).step N.out))).mono ?_
  rintro e w3 ⟨rfl, hb⟩
  replace N := hid (N.out.step hb)
  clear a0 a1 a2 a3 a4
  have a0 := box_cell (j := 0) N.out rfl
  have a1 := box_cell (j := 1) N.out rfl
  have a2 := box_cell (j := 2) N.out rfl
  have a3 := box_cell (j := 3) N.out rfl
  have a4 := box_cell (j := 4) N.out rfl
  cases b3 with
  | false =>
    replace hR : Hid (R = 15) := hR.out.trans (if_pos rfl)
    go_wp2_with fail
    go_ret
    exact ⟨by rw [hR.out]; rfl, (below_new _ _).step N.out⟩
  | true =>
  replace hR : Hid _ := hid (hR.out.trans (if_neg (by decide)))
  go_wp2_with fail
  refine (g4.out _ _ (hV0.out.later ((below_new _ _).step N.out))).mono ?_
  rintro e w4 ⟨rfl, hb⟩
  replace N := hid (N.out.step hb)
  clear a0 a1 a2 a3 a4
  have a0 := box_cell (j := 0) N.out rfl
  have a1 := box_cell (j := 1) N.out rfl
  have a2 := box_cell (j := 2) N.out rfl
  have a3 := box_cell (j := 3) N.out rfl
  have a4 := box_cell (j := 4) N.out rfl
  by_cases hd : 8 < d
  · replace hR : Hid (R = 3) := hR.out.trans (if_pos hd)
    go_wp2_with fail
    go_ret
    exact ⟨by rw [hR.out]; rfl, (below_new _ _).step N.out⟩
  replace hR : Hid _ := hid (hR.out.trans (if_neg hd))
  go_wp2_with fail
  refine (g5.out _ _ (hV0.out.later ((below_new _ _).step N.out))).mono ?_
  rintro e w5 ⟨v, rfl, g, cap, rfl, hm5⟩
  replace N := hid (N.out.step hm5.below)
  by_cases he : 2048 < en.length
  · replace hR : Hid (R = 2) := hR.out.trans (if_pos he)
    go_wp2_with fail
    go_ret
    exact ⟨by rw [hR.out]; rfl, (below_new _ _).step N.out⟩
  replace hR : Hid (R = 0) := hR.out.trans (if_neg he)
  go_wp2_with fail
  go_ret
  exact ⟨by rw [hR.out]; rfl, (below_new _ _).step N.out⟩

theorem rcmp_calls (a b : Int) (w : World) : Calls Tryd.prog 93 #[.int .i64 a, .int .i64 b] w fun e w' => e = .returned (.int .i64 (icmp a b)) ∧ w = w' := by
  have hR : Hid (icmp a b = if a < b then -1 else if b < a then 1 else 0) := by show _ = _; unfold icmp; repeat' split <;> omega
  generalize icmp a b = R at *
  by_cases h1 : a < b
  · replace hR : Hid (R = -1) := hR.out.trans (if_pos h1)
    go_enter Tryd.func93, Tryd.ntmps93
    go_wp2_with fail
    go_ret
    exact ⟨by rw [hR.out]; rfl, rfl⟩
  by_cases h2 : b < a
  · replace hR : Hid (R = 1) := hR.out.trans ((if_neg h1).trans (if_pos h2))
    go_enter Tryd.func93, Tryd.ntmps93
    go_wp2_with fail
    go_ret
    exact ⟨by rw [hR.out]; rfl, rfl⟩
  replace hR : Hid (R = 0) := hR.out.trans ((if_neg h1).trans (if_neg h2))
  go_enter Tryd.func93, Tryd.ntmps93
  go_wp2_with fail
  go_ret
  exact ⟨by rw [hR.out]; rfl, rfl⟩
theorem first_calls (w : World) : Calls Tryd.prog 51 #[] w fun e w' => e = .returned (.int .u64 14695981039346656037) ∧ w = w' := by
  go_enter Tryd.func51, Tryd.ntmps51
  go_wp2_with fail
  go_ret
  exact ⟨rfl, rfl⟩
end Go.Proofs.YtdjegpmjhfbamaaDoor
