/-
  Walks: value.Good, Size; cmp.Or, cmp.Compare.
-/
import Derived.Test.YtdjegpmjhfbamaaDoorVal8
import Derived.Outline
namespace Go.Proofs.YtdjegpmjhfbamaaDoor
open Go.RowKit Go.Proofs

set_option maxRecDepth 100000 in
set_option maxHeartbeats 1000000 in
theorem good_calls (V : PVal) (w : World) (cs : List Value) (hN : V.nodes ≤ 20000) (hT : Tabs w) (hV : Rd w (Now w) V cs) :
    Calls Tryd.prog 39 #[.agg cs.toArray] w fun e w' => e = .returned (.int .i64 V.good) ∧ Below w.heap.size w w' := by
  have ha := hid (all_calls (E := fun _ => True) (fun _ _ _ _ => trivial) 78 formedB (fun V w cs _ h => formed_calls V w cs h) (enters_of Tryd.func78 (by kernel_rfl) rfl) V)
  have hb := hid (all_calls Tabs.stays 79 spelledB spelled_calls (enters_of Tryd.func79 (by kernel_rfl) rfl) V)
  have hc := hid (all_calls (E := fun _ => True) (fun _ _ _ _ => trivial) 80 fewB few_calls (enters_of Tryd.func80 (by kernel_rfl) rfl) V)
  have hd := hid (depth_calls V)
  have hs := hid (size_calls V)
  have hT := hid hT
  have hg : Hid (V.good = if V.all formedB = false then 4 else if V.all spelledB = false then 11 else if V.all fewB = false then 15 else if 8 < V.depth then 3 else if 2048 < V.size then 2 else 0) := rfl
  have hdn := depth_le_nodes V
  have hsn := size_fits V hV.fits hN
  generalize V.all formedB = A at *
  generalize V.all spelledB = B at *
  generalize V.all fewB = C at *
  generalize V.depth = D at *
  generalize V.size = S at *
  generalize V.good = R at *
  have hV0 := hid hV
  obtain ⟨k, n, s, l, fn, fv⟩ := V
  obtain ⟨la, lc, fa, fc, rfl, hk, hn, hsz, hlc, hlm, hfc, hfm, hL, hF⟩ := hV.inv
  clear hV
  go_enter Tryd.func39, Tryd.ntmps39
  go_wp2_with fail
  refine (ha.out _ _ trivial hN (hV0.out.later (below_new _ _))).mono ?_
  rintro e w1 ⟨rfl, h1⟩
  have hb1 := (below_new w _).step h1
  cases A with
  | false =>
    go_wp2_with fail
    go_ret
    exact ⟨by rw [hg.out]; rfl, hb1⟩
  | true =>
  have a0 := box_cell (j := 0) h1 rfl
  have a1 := box_cell (j := 1) h1 rfl
  have a2 := box_cell (j := 2) h1 rfl
  have a3 := box_cell (j := 3) h1 rfl
  have a4 := box_cell (j := 4) h1 rfl
  go_wp2_with fail
  refine (hb.out _ _ (Tabs.stays _ _ hT.out hb1) hN (hV0.out.later hb1)).mono ?_
  rintro e w2 ⟨rfl, h2⟩
  replace h2 := h1.step h2
  clear a0 a1 a2 a3 a4
  have hb2 := (below_new w _).step h2
  cases B with
  | false =>
    go_wp2_with fail
    go_ret
    exact ⟨by rw [hg.out]; rfl, hb2⟩
  | true =>
  have a0 := box_cell (j := 0) h2 rfl
  have a1 := box_cell (j := 1) h2 rfl
  have a2 := box_cell (j := 2) h2 rfl
  have a3 := box_cell (j := 3) h2 rfl
  have a4 := box_cell (j := 4) h2 rfl
  go_wp2_with fail
  refine (hc.out _ _ trivial hN (hV0.out.later hb2)).mono ?_
  rintro e w3 ⟨rfl, h3⟩
  replace h3 := h2.step h3
  clear a0 a1 a2 a3 a4
  have hb3 := (below_new w _).step h3
  cases C with
  | false =>
    go_wp2_with fail
    go_ret
    exact ⟨by rw [hg.out]; rfl, hb3⟩
  | true =>
  have a0 := box_cell (j := 0) h3 rfl
  have a1 := box_cell (j := 1) h3 rfl
  have a2 := box_cell (j := 2) h3 rfl
  have a3 := box_cell (j := 3) h3 rfl
  have a4 := box_cell (j := 4) h3 rfl
  go_wp2_with fail
  refine (hd.out _ _ hN (hV0.out.later hb3)).mono ?_
  rintro e w4 ⟨rfl, h4⟩
  replace h4 := h3.step h4
  clear a0 a1 a2 a3 a4
  have hb4 := (below_new w _).step h4
  by_cases h8 : 8 < D
  · have h8' : (8 : Int) < (D : Int) := by omega
    have he : Hid (R = 3) := by show _ = _; rw [hg.out]; simp [h8]
    go_wp2_with fail
    go_ret
    exact ⟨by rw [he.out]; rfl, hb4⟩
  have a0 := box_cell (j := 0) h4 rfl
  have a1 := box_cell (j := 1) h4 rfl
  have a2 := box_cell (j := 2) h4 rfl
  have a3 := box_cell (j := 3) h4 rfl
  have a4 := box_cell (j := 4) h4 rfl
  go_wp2_with fail
  refine (hs.out _ _ hN (hV0.out.later hb4)).mono ?_
  rintro e w5 ⟨rfl, h5⟩
  replace h5 := h4.step h5
  clear a0 a1 a2 a3 a4
  have hb5 := (below_new w _).step h5
  by_cases h20 : 2048 < S
  · have he : Hid (R = 2) := by show _ = _; rw [hg.out]; simp [h8, h20]
    go_wp2_with fail
    go_ret
    exact ⟨by rw [he.out]; rfl, hb5⟩
  · have he : Hid (R = 0) := by show _ = _; rw [hg.out]; simp [h8, h20]
    go_wp2_with fail
    go_ret
    exact ⟨by rw [he.out]; rfl, hb5⟩

theorem size_tells (V : PVal) (w : World) (cs : List Value) (hN : V.nodes ≤ 20000) (hT : Tabs w) (hV : Rd w (Now w) V cs) :
    Calls Tryd.prog 41 #[.agg cs.toArray] w fun e w' => e = .returned (.tuple #[.int .i64 (if V.good = 0 then V.size else 0), .int .i64 V.good]) ∧ Below w.heap.size w w' := by
  have hg := hid (fun w cs => good_calls V w cs hN)
  have hs := hid (size_calls V)
  have hT := hid hT
  have hV0 := hid hV
  generalize V.good = G at *
  generalize V.size = S at *
  obtain ⟨k, n, s, l, fn, fv⟩ := V
  obtain ⟨la, lc, fa, fc, rfl, hk, hn, hsz, hlc, hlm, hfc, hfm, hL, hF⟩ := hV.inv
  clear hV
  go_enter Tryd.func41, Tryd.ntmps41
  go_wp2_with fail
  refine (hg.out _ _ (Tabs.stays _ _ hT.out (below_new _ _)) (hV0.out.later (below_new _ _))).mono ?_
  rintro e w1 ⟨rfl, h1⟩
  have hb1 := (below_new w _).step h1
  by_cases hG : G = 0
  · subst hG
    have a0 := box_cell (j := 0) h1 rfl
    have a1 := box_cell (j := 1) h1 rfl
    have a2 := box_cell (j := 2) h1 rfl
    have a3 := box_cell (j := 3) h1 rfl
    have a4 := box_cell (j := 4) h1 rfl
    go_wp2_with fail
    refine (hs.out _ _ hN (hV0.out.later hb1)).mono ?_
    rintro e w2 ⟨rfl, h2⟩
    go_wp2_with fail
    go_ret2
    exact ⟨rfl, hb1.step h2⟩
  · have hG' : (G != 0) = true := by simp [hG]
    go_wp2_with fail
    go_ret2
    exact ⟨by simp only []; rfl, hb1⟩

/-- cmp.Or: the first that is not nought. -/
def orI : List Int → Int
  | [] => 0
  | x :: r => if x = 0 then orI r else x
theorem orI_drop (xs : List Int) : ∀ j, (∀ i, i < j → xs.getD i 0 = 0) → orI xs = orI (xs.drop j) := by
  induction xs with
  | nil => intro j _; simp [orI]
  | cons x r ih =>
    intro j h
    match j with
    | 0 => rfl
    | j + 1 =>
      have h0 : x = 0 := h 0 (by omega)
      simp only [orI, h0, if_true, List.drop_succ_cons]
      exact ih j (fun i hi => h (i + 1) (by omega))
theorem orI_zero (xs : List Int) : (∀ i, i < xs.length → xs.getD i 0 = 0) → orI xs = 0 := by
  intro h
  rw [orI_drop xs xs.length h, List.drop_length]; rfl
theorem orI_at (xs : List Int) (j : Nat) (hj : j < xs.length) (h : ∀ i, i < j → xs.getD i 0 = 0) (hn : xs.getD j 0 ≠ 0) : orI xs = xs.getD j 0 := by
  rw [orI_drop xs j h, List.drop_eq_getElem_cons hj]
  have e : xs.getD j 0 = xs[j] := by simp [List.getD, List.getElem?_eq_getElem hj]
  rw [e] at hn ⊢
  simp [orI, hn]

theorem or_int_calls (xs : List Int) (hl : xs.length ≤ 100) (b c : Nat) (w : World) (hx : ∀ i, i < xs.length → w.cell? ⟨b, 0 + i, none⟩ = some (.int .i64 (xs.getD i 0))) :
    Calls Tryd.prog 114 #[.slice (some ⟨b, 0, none⟩) xs.length c] w fun e w' => e = .returned (.int .i64 (orI xs)) ∧ w = w' := by
  have hx := hid hx
  go_enter Tryd.func114, Tryd.ntmps114
  go_wp2_with fail
  go_loopg [8] xs.length (fun g i wr => ∃ j : Nat, g + j = xs.length ∧ i = .int .i64 j ∧ (∀ i, i < j → xs.getD i 0 = 0) ∧ wr = w)
  case atStart => exact ⟨0, by omega, rfl, fun i hi => by omega, rfl⟩
  case round =>
    obtain ⟨j, hj, rfl, hz, rfl⟩ := hrel
    have hz := hid hz
    by_cases hlt : j < xs.length
    · have cj : wr.cell? ⟨b, j, none⟩ = some (.int .i64 (xs.getD j 0)) := by have := hx.out j hlt; rwa [Nat.zero_add] at this
      have hat := hid (orI_at xs j hlt hz.out)
      have hx0 := hid (rfl : xs.getD j 0 = xs.getD j 0)
      generalize hv : xs.getD j 0 = v at *
      have hv := hid hv
      by_cases h0 : v = 0
      · subst h0
        go_wp2_with fail
        go_roundg (xs.length - (j + 1))
        case measure => omega
        case rel => exact ⟨j + 1, by omega, by go_num, fun i hi => by
          rcases Nat.lt_or_ge i j with h | h
          · exact hz.out i h
          · have : i = j := by omega
            subst this; exact hv.out, rfl⟩
      · have he : Hid (orI xs = v) := hat.out h0
        have h0' : (v != 0) = true := by simp [h0]
        go_wp2_with fail
        go_ret
        exact ⟨by rw [he.out]; rfl, rfl⟩
    · have he : Hid (orI xs = 0) := orI_zero xs (fun i hi => hz.out i (by omega))
      go_wp2_with fail
      go_ret
      exact ⟨by rw [he.out]; rfl, rfl⟩

theorem or_errno_calls (xs : List Int) (hl : xs.length ≤ 100) (b c : Nat) (w : World) (hx : ∀ i, i < xs.length → w.cell? ⟨b, 0 + i, none⟩ = some (.int .i64 (xs.getD i 0))) :
    Calls Tryd.prog 90 #[.slice (some ⟨b, 0, none⟩) xs.length c] w fun e w' => e = .returned (.int .i64 (orI xs)) ∧ w = w' := by
  have hx := hid hx
  go_enter Tryd.func90, Tryd.ntmps90
  go_wp2_with fail
  go_loopg [8] xs.length (fun g i wr => ∃ j : Nat, g + j = xs.length ∧ i = .int .i64 j ∧ (∀ i, i < j → xs.getD i 0 = 0) ∧ wr = w)
  case atStart => exact ⟨0, by omega, rfl, fun i hi => by omega, rfl⟩
  case round =>
    obtain ⟨j, hj, rfl, hz, rfl⟩ := hrel
    have hz := hid hz
    by_cases hlt : j < xs.length
    · have cj : wr.cell? ⟨b, j, none⟩ = some (.int .i64 (xs.getD j 0)) := by have := hx.out j hlt; rwa [Nat.zero_add] at this
      have hat := hid (orI_at xs j hlt hz.out)
      generalize hv : xs.getD j 0 = v at *
      have hv := hid hv
      by_cases h0 : v = 0
      · subst h0
        go_wp2_with fail
        go_roundg (xs.length - (j + 1))
        case measure => omega
        case rel => exact ⟨j + 1, by omega, by go_num, fun i hi => by
          rcases Nat.lt_or_ge i j with h | h
          · exact hz.out i h
          · have : i = j := by omega
            subst this; exact hv.out, rfl⟩
      · have he : Hid (orI xs = v) := hat.out h0
        have h0' : (v != 0) = true := by simp [h0]
        go_wp2_with fail
        go_ret
        exact ⟨by rw [he.out]; rfl, rfl⟩
    · have he : Hid (orI xs = 0) := orI_zero xs (fun i hi => hz.out i (by omega))
      go_wp2_with fail
      go_ret
      exact ⟨by rw [he.out]; rfl, rfl⟩

def icmp (x y : Int) : Int := if x < y then -1 else if y < x then 1 else 0
theorem cmp_int_calls (x y : Int) (w : World) : Calls Tryd.prog 113 #[.int .i64 x, .int .i64 y] w fun e w' => e = .returned (.int .i64 (icmp x y)) ∧ w = w' := by
  unfold icmp
  by_cases h1 : x < y
  · rw [if_pos h1]
    go_enter Tryd.func113, Tryd.ntmps113
    go_wp2
    go_ret
    exact ⟨rfl, rfl⟩
  by_cases h2 : y < x
  · rw [if_neg h1, if_pos h2]
    go_enter Tryd.func113, Tryd.ntmps113
    go_wp2
    go_ret
    exact ⟨rfl, rfl⟩
  · rw [if_neg h1, if_neg h2]
    go_enter Tryd.func113, Tryd.ntmps113
    go_wp2
    go_ret
    exact ⟨rfl, rfl⟩
theorem cmp_i64_calls (x y : Int) (w : World) : Calls Tryd.prog 115 #[.int .i64 x, .int .i64 y] w fun e w' => e = .returned (.int .i64 (icmp x y)) ∧ w = w' := by
  unfold icmp
  by_cases h1 : x < y
  · rw [if_pos h1]
    go_enter Tryd.func115, Tryd.ntmps115
    go_wp2
    go_ret
    exact ⟨rfl, rfl⟩
  by_cases h2 : y < x
  · rw [if_neg h1, if_pos h2]
    go_enter Tryd.func115, Tryd.ntmps115
    go_wp2
    go_ret
    exact ⟨rfl, rfl⟩
  · rw [if_neg h1, if_neg h2]
    go_enter Tryd.func115, Tryd.ntmps115
    go_wp2
    go_ret
    exact ⟨rfl, rfl⟩
end Go.Proofs.YtdjegpmjhfbamaaDoor
