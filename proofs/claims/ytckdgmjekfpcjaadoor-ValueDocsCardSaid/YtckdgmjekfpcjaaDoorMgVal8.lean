/-
  Walks: value.size: of every value in memory of at most 20000 nodes.
  Walks: value.Good, Size; cmp.Or, cmp.Compare.
-/
import Derived.Test.YtckdgmjekfpcjaaDoorMgShelfA
import Derived.Outline
namespace Go.Proofs.YtckdgmjekfpcjaaDoor
open Go.RowKit Go.Proofs

/-- A value's own bytes, without its parts'. -/
def PVal.own : PVal → Nat
  | .mk k n s l fn fv => 1 + (if k = 2 then 1 else if k = 3 then digits (turned n) else if k = 4 then digits s.size + s.size else if k = 5 then digits l.length else if k = 6 then digits fv.length + namesSize fn else 0)
theorem size_own (v : PVal) : v.size = v.own + sizeL v.parts := by
  obtain ⟨k, n, s, l, fn, fv⟩ := v
  simp only [PVal.size, PVal.own, PVal.parts]
  by_cases h2 : k = 2
  · subst h2; simp [sizeL]
  by_cases h3 : k = 3
  · subst h3; simp [sizeL]
  by_cases h4 : k = 4
  · subst h4; simp [sizeL]
  by_cases h5 : k = 5
  · subst h5; simp; omega
  by_cases h6 : k = 6
  · subst h6; simp; omega
  · simp [h2, h3, h4, h5, h6, sizeL]

set_option maxRecDepth 100000 in
set_option maxHeartbeats 4000000 in
theorem size_big : ∀ (V : PVal) (w : World) (cs : List Value), V.nodes ≤ 1000000000000 → V.size ≤ 9000000000000000000 → Rd w (Now w) V cs →
    Calls Tryd.prog 22 #[.agg cs.toArray] w fun e w' => e = .returned (.int .i64 V.size) ∧ Below w.heap.size w w' := by
  intro V
  induction hN : V.nodes using Nat.strongRecOn generalizing V with
  | _ N ih =>
  subst hN
  intro w cs hN hfit hV
  have hd := hid (size_own V)
  have hown : V.own + sizeL V.parts ≤ 9000000000000000000 := by rw [← hd.out]; exact hfit
  have hpn := nodes_parts V
  have hp := hid (fun w cs h => parts_calls V w cs h)
  have hod := hid (rfl : V.own = V.own)
  generalize hps : V.parts = ps at *
  clear hps
  have hpl := nodesL_length ps
  obtain ⟨k, n, s, l, fn, fv⟩ := V
  obtain ⟨la, lc, fa, fc, rfl, hk, hn, hs, hlc, hlm, hfc, hfm, hL, hF⟩ := hV.inv
  have hlen := hid hF.1
  generalize PVal.size (.mk k n s l fn fv) = R at *
  by_cases h2 : k = 2
  · subst h2
    have hO : Hid (PVal.own (.mk 2 n s l fn fv) = 2) := rfl
    generalize PVal.own (.mk 2 n s l fn fv) = O at *
    go_enter Tryd.func22, Tryd.ntmps22
    go_wp2_with fail
    refine (hp.out _ _ (hV.later (below_new w _))).mono ?_
    rintro e w1 ⟨pa, pc, rfl, hps, hb1⟩
    have hb0 := Below.step (below_new w _) hb1
    go_wp2_with fail
    go_loopg [3, 75] ps.length (fun g m i wr => ∃ j : Nat, g + j = ps.length ∧ i = .int .i64 j ∧ m = .int .i64 (O + sizeL (ps.take j) : Nat) ∧ Below w1.heap.size w1 wr)
    case atStart => exact ⟨0, by omega, rfl, by first | (rw [hO.out]; simp [sizeL]; done) | simp [sizeL], Below.refl _ _⟩
    case round =>
      obtain ⟨j, hj, rfl, rfl, hbr⟩ := hrel
      have hpr := hps.later hbr
      have hdt := sizeL_take_le ps j
      by_cases hlt : j < ps.length
      · obtain ⟨x, hx⟩ : ∃ x, ps[j]? = some x := ⟨_, List.getElem?_eq_getElem hlt⟩
        obtain ⟨b, off, xs, rfl, hxS, hxc, hxr⟩ := hpr.at_ hx
        have hxn := nodes_mem (List.mem_of_getElem? hx)
        have hcx := ih x.nodes (by omega) x rfl
        have hdt1 := sizeL_take_le ps (j + 1)
        have hsx := hid (sizeL_succ hx)
        have hdx : sizeL (ps.take j) + x.size ≤ sizeL ps := by rw [← hsx.out]; exact hdt1
        obtain ⟨xk, xn, xsx, xl, xfn, xfv⟩ := x
        obtain ⟨xla, xlc, xfa, xfc, rfl, _⟩ := hxr.inv
        obtain ⟨c0, c1, c2, c3, c4⟩ := five hxc
        clear hxc
        go_wp2_with fail
        refine (hcx _ _ (by omega) (by omega) (hxr.later (below_new _ _))).mono ?_
        rintro e w2 ⟨rfl, hb2⟩
        go_wp2_with fail
        go_roundg (ps.length - (j + 1))
        case measure => omega
        case rel => exact ⟨j + 1, by omega, by go_num, by rw [hsx.out]; go_num, hbr.step ((below_new _ _).step hb2)⟩
      · have he : Hid (R = O + sizeL (ps.take j)) := by
          have : j = ps.length := by omega
          subst this
          show _ = _
          rw [List.take_length]; exact hd.out
        go_wp2_with fail
        go_ret
        exact ⟨by rw [he.out]; rfl, hb0.step hbr⟩
  by_cases h3 : k = 3
  · subst h3
    have hO : Hid (PVal.own (.mk 3 n s l fn fv) = 1 + digits (turned n)) := rfl
    generalize PVal.own (.mk 3 n s l fn fv) = O at *
    have htu := turned_calls n hn (w.alloc (.cells #[.int .i64 3, .int .i64 n, .string s, .slice la l.length lc, .slice fa fv.length fc] 27))
    have htl := turned_lt hn
    have hdi := digits_calls (turned n) htl (w.alloc (.cells #[.int .i64 3, .int .i64 n, .string s, .slice la l.length lc, .slice fa fv.length fc] 27))
    have hdl := digits_le (turned n) htl
    generalize turned n = T at *
    go_enter Tryd.func22, Tryd.ntmps22
    go_wp2_with fail
    refine htu.mono ?_
    rintro e w0 ⟨rfl, rfl⟩
    go_wp2_with fail
    refine hdi.mono ?_
    rintro e w0 ⟨rfl, rfl⟩
    go_wp2_with fail
    refine (hp.out _ _ (hV.later (below_new w _))).mono ?_
    rintro e w1 ⟨pa, pc, rfl, hps, hb1⟩
    have hb0 := Below.step (below_new w _) hb1
    go_wp2_with fail
    go_loopg [3, 75] ps.length (fun g m i wr => ∃ j : Nat, g + j = ps.length ∧ i = .int .i64 j ∧ m = .int .i64 (O + sizeL (ps.take j) : Nat) ∧ Below w1.heap.size w1 wr)
    case atStart => exact ⟨0, by omega, rfl, by first | (rw [hO.out]; simp [sizeL]; done) | simp [sizeL], Below.refl _ _⟩
    case round =>
      obtain ⟨j, hj, rfl, rfl, hbr⟩ := hrel
      have hpr := hps.later hbr
      have hdt := sizeL_take_le ps j
      by_cases hlt : j < ps.length
      · obtain ⟨x, hx⟩ : ∃ x, ps[j]? = some x := ⟨_, List.getElem?_eq_getElem hlt⟩
        obtain ⟨b, off, xs, rfl, hxS, hxc, hxr⟩ := hpr.at_ hx
        have hxn := nodes_mem (List.mem_of_getElem? hx)
        have hcx := ih x.nodes (by omega) x rfl
        have hdt1 := sizeL_take_le ps (j + 1)
        have hsx := hid (sizeL_succ hx)
        have hdx : sizeL (ps.take j) + x.size ≤ sizeL ps := by rw [← hsx.out]; exact hdt1
        obtain ⟨xk, xn, xsx, xl, xfn, xfv⟩ := x
        obtain ⟨xla, xlc, xfa, xfc, rfl, _⟩ := hxr.inv
        obtain ⟨c0, c1, c2, c3, c4⟩ := five hxc
        clear hxc
        go_wp2_with fail
        refine (hcx _ _ (by omega) (by omega) (hxr.later (below_new _ _))).mono ?_
        rintro e w2 ⟨rfl, hb2⟩
        go_wp2_with fail
        go_roundg (ps.length - (j + 1))
        case measure => omega
        case rel => exact ⟨j + 1, by omega, by go_num, by rw [hsx.out]; go_num, hbr.step ((below_new _ _).step hb2)⟩
      · have he : Hid (R = O + sizeL (ps.take j)) := by
          have : j = ps.length := by omega
          subst this
          show _ = _
          rw [List.take_length]; exact hd.out
        go_wp2_with fail
        go_ret
        exact ⟨by rw [he.out]; rfl, hb0.step hbr⟩
  by_cases h4 : k = 4
  · subst h4
    have hO : Hid (PVal.own (.mk 4 n s l fn fv) = 1 + (digits s.size + s.size)) := rfl
    generalize PVal.own (.mk 4 n s l fn fv) = O at *
    have hdi := fun w => digits_calls s.size (by omega) w
    have hdl := digits_le s.size (by omega)
    generalize digits s.size = T at *
    have hdi := hid hdi
    have x1 : IntKind.i64.wrap ((T : Int) + (s.size : Int)) = (T : Int) + (s.size : Int) := IntWalk.i64_in _ ⟨by omega, by omega⟩
    have x2 : IntKind.i64.wrap (1 + ((T : Int) + (s.size : Int))) = 1 + ((T : Int) + (s.size : Int)) := IntWalk.i64_in _ ⟨by omega, by omega⟩
    have x3 : IntKind.u64.wrap (s.size : Int) = (s.size : Int) := IntWalk.u64_in _ ⟨by omega, by omega⟩
    go_enter Tryd.func22, Tryd.ntmps22
    go_wp2_with fail
    go_quiet ((go_at_call 33; exact Calls.quiet_of_same ((hdi.out _).mono fun _ _ h => ⟨h.1, h.2.symm⟩)))
    clear x1 x2 x3
    go_wp2_with fail
    refine (hp.out _ _ (hV.later (below_drewN (below_new w _) _))).mono ?_
    rintro e w1 ⟨pa, pc, rfl, hps, hb1⟩
    have hb0 := Below.step (below_drewN (below_new w _) _) hb1
    go_wp2_with fail
    go_loopg [3, 75] ps.length (fun g m i wr => ∃ j : Nat, g + j = ps.length ∧ i = .int .i64 j ∧ m = .int .i64 (O + sizeL (ps.take j) : Nat) ∧ Below w1.heap.size w1 wr)
    case atStart => exact ⟨0, by omega, rfl, by first | (rw [hO.out]; simp [sizeL]; done) | simp [sizeL], Below.refl _ _⟩
    case round =>
      obtain ⟨j, hj, rfl, rfl, hbr⟩ := hrel
      have hpr := hps.later hbr
      have hdt := sizeL_take_le ps j
      by_cases hlt : j < ps.length
      · obtain ⟨x, hx⟩ : ∃ x, ps[j]? = some x := ⟨_, List.getElem?_eq_getElem hlt⟩
        obtain ⟨b, off, xs, rfl, hxS, hxc, hxr⟩ := hpr.at_ hx
        have hxn := nodes_mem (List.mem_of_getElem? hx)
        have hcx := ih x.nodes (by omega) x rfl
        have hdt1 := sizeL_take_le ps (j + 1)
        have hsx := hid (sizeL_succ hx)
        have hdx : sizeL (ps.take j) + x.size ≤ sizeL ps := by rw [← hsx.out]; exact hdt1
        obtain ⟨xk, xn, xsx, xl, xfn, xfv⟩ := x
        obtain ⟨xla, xlc, xfa, xfc, rfl, _⟩ := hxr.inv
        obtain ⟨c0, c1, c2, c3, c4⟩ := five hxc
        clear hxc
        go_wp2_with fail
        refine (hcx _ _ (by omega) (by omega) (hxr.later (below_new _ _))).mono ?_
        rintro e w2 ⟨rfl, hb2⟩
        go_wp2_with fail
        go_roundg (ps.length - (j + 1))
        case measure => omega
        case rel => exact ⟨j + 1, by omega, by go_num, by rw [hsx.out]; go_num, hbr.step ((below_new _ _).step hb2)⟩
      · have he : Hid (R = O + sizeL (ps.take j)) := by
          have : j = ps.length := by omega
          subst this
          show _ = _
          rw [List.take_length]; exact hd.out
        go_wp2_with fail
        go_ret
        exact ⟨by rw [he.out]; rfl, hb0.step hbr⟩
  by_cases h5 : k = 5
  · subst h5
    have hO : Hid (PVal.own (.mk 5 n s l fn fv) = 1 + digits l.length) := rfl
    generalize PVal.own (.mk 5 n s l fn fv) = O at *
    have hdi := digits_calls l.length (by omega) (w.alloc (.cells #[.int .i64 5, .int .i64 n, .string s, .slice la l.length lc, .slice fa fv.length fc] 27))
    have hdl := digits_le l.length (by omega)
    generalize digits l.length = T at *
    go_enter Tryd.func22, Tryd.ntmps22
    go_wp2_with fail
    refine hdi.mono ?_
    rintro e w0 ⟨rfl, rfl⟩
    go_wp2_with fail
    refine (hp.out _ _ (hV.later (below_new w _))).mono ?_
    rintro e w1 ⟨pa, pc, rfl, hps, hb1⟩
    have hb0 := Below.step (below_new w _) hb1
    go_wp2_with fail
    go_loopg [3, 75] ps.length (fun g m i wr => ∃ j : Nat, g + j = ps.length ∧ i = .int .i64 j ∧ m = .int .i64 (O + sizeL (ps.take j) : Nat) ∧ Below w1.heap.size w1 wr)
    case atStart => exact ⟨0, by omega, rfl, by first | (rw [hO.out]; simp [sizeL]; done) | simp [sizeL], Below.refl _ _⟩
    case round =>
      obtain ⟨j, hj, rfl, rfl, hbr⟩ := hrel
      have hpr := hps.later hbr
      have hdt := sizeL_take_le ps j
      by_cases hlt : j < ps.length
      · obtain ⟨x, hx⟩ : ∃ x, ps[j]? = some x := ⟨_, List.getElem?_eq_getElem hlt⟩
        obtain ⟨b, off, xs, rfl, hxS, hxc, hxr⟩ := hpr.at_ hx
        have hxn := nodes_mem (List.mem_of_getElem? hx)
        have hcx := ih x.nodes (by omega) x rfl
        have hdt1 := sizeL_take_le ps (j + 1)
        have hsx := hid (sizeL_succ hx)
        have hdx : sizeL (ps.take j) + x.size ≤ sizeL ps := by rw [← hsx.out]; exact hdt1
        obtain ⟨xk, xn, xsx, xl, xfn, xfv⟩ := x
        obtain ⟨xla, xlc, xfa, xfc, rfl, _⟩ := hxr.inv
        obtain ⟨c0, c1, c2, c3, c4⟩ := five hxc
        clear hxc
        go_wp2_with fail
        refine (hcx _ _ (by omega) (by omega) (hxr.later (below_new _ _))).mono ?_
        rintro e w2 ⟨rfl, hb2⟩
        go_wp2_with fail
        go_roundg (ps.length - (j + 1))
        case measure => omega
        case rel => exact ⟨j + 1, by omega, by go_num, by rw [hsx.out]; go_num, hbr.step ((below_new _ _).step hb2)⟩
      · have he : Hid (R = O + sizeL (ps.take j)) := by
          have : j = ps.length := by omega
          subst this
          show _ = _
          rw [List.take_length]; exact hd.out
        go_wp2_with fail
        go_ret
        exact ⟨by rw [he.out]; rfl, hb0.step hbr⟩
  by_cases h6 : k = 6
  · subst h6
    have hO : Hid (PVal.own (.mk 6 n s l fn fv) = 1 + (digits fv.length + namesSize fn)) := rfl
    generalize PVal.own (.mk 6 n s l fn fv) = O at *
    have hdi := digits_calls fv.length (by omega) (w.alloc (.cells #[.int .i64 6, .int .i64 n, .string s, .slice la l.length lc, .slice fa fv.length fc] 27))
    have hdl := digits_le fv.length (by omega)
    generalize digits fv.length = T at *
    go_enter Tryd.func22, Tryd.ntmps22
    go_wp2_with fail
    refine hdi.mono ?_
    rintro e w0 ⟨rfl, rfl⟩
    go_wp2_with fail
    have hnl := hown
    rw [hO.out] at hnl
    go_loopg [3, 56] fv.length (fun g m i wr => ∃ j : Nat, g + j = fv.length ∧ i = .int .i64 j ∧ m = .int .i64 (1 + T + namesSize (fn.take j) : Nat) ∧ Below (w.alloc (.cells #[.int .i64 6, .int .i64 n, .string s, .slice la l.length lc, .slice fa fv.length fc] 27)).heap.size (w.alloc (.cells #[.int .i64 6, .int .i64 n, .string s, .slice la l.length lc, .slice fa fv.length fc] 27)) wr)
    case atStart => exact ⟨0, by omega, rfl, by simp [namesSize], Below.refl _ _⟩
    case round =>
      obtain ⟨j, hj, rfl, rfl, hbr⟩ := hrel
      have hbw := (below_new w _).step hbr
      have hpr := hF.later hbw
      have hnt := namesSize_take_le fn j
      by_cases hlt : j < fv.length
      · obtain ⟨x, hx⟩ : ∃ x, fv[j]? = some x := ⟨_, List.getElem?_eq_getElem hlt⟩
        obtain ⟨nm, hnm⟩ : ∃ nm, fn[j]? = some nm := ⟨_, List.getElem?_eq_getElem (by rw [hlen.out]; exact hlt)⟩
        obtain ⟨b, off, xs, rfl, hxS, hxc, hxr, hnz⟩ := hpr.at_ hnm hx
        have hsn := hid (namesSize_succ hnm)
        have hnt1 := namesSize_take_le fn (j + 1)
        have hdx : namesSize (fn.take j) + (digits nm.size + nm.size) ≤ namesSize fn := by rw [← hsn.out]; exact hnt1
        obtain ⟨xk, xn, xsx, xl, xfn, xfv⟩ := x
        obtain ⟨xla, xlc, xfa, xfc, rfl, _⟩ := hxr.inv
        obtain ⟨c0, c1, c2, c3, c4, c5⟩ := six hxc
        clear hxc hnm hx
        have hdn := fun w => digits_calls nm.size (by omega) w
        have hdn := hid hdn
        have hdl := digits_le nm.size (by omega)
        generalize digits nm.size = D at *
        generalize namesSize (fn.take j) = M at *
        have x1 : IntKind.i64.wrap ((D : Int) + (nm.size : Int)) = (D : Int) + (nm.size : Int) := IntWalk.i64_in _ ⟨by omega, by omega⟩
        have x2 : IntKind.i64.wrap (1 + (T : Int) + (M : Int) + ((D : Int) + (nm.size : Int))) = 1 + (T : Int) + (M : Int) + ((D : Int) + (nm.size : Int)) := IntWalk.i64_in _ ⟨by omega, by omega⟩
        have x3 : IntKind.u64.wrap (nm.size : Int) = (nm.size : Int) := IntWalk.u64_in _ ⟨by omega, by omega⟩
        go_wp2_with fail
        go_quiet ((go_at_call 33; exact Calls.quiet_of_same ((hdn.out _).mono fun _ _ h => ⟨h.1, h.2.symm⟩)))
        clear x1 x2 x3
        go_wp2_with fail
        go_roundg (fv.length - (j + 1))
        case measure => omega
        case rel => exact ⟨j + 1, by omega, by go_num, by rw [hsn.out]; go_num, below_drewN (hbr.step (below_new _ _)) _⟩
      · have hjn : Hid (1 + T + namesSize (fn.take j) = O) := by
          have : fn.take j = fn := List.take_of_length_le (by rw [hlen.out]; omega)
          show _ = _
          rw [this, hO.out]; omega
        have hO' := hO
        clear hO
        have hnO := hjn.out
        have c0 := box_cell (j := 0) hbr rfl
        have c1 := box_cell (j := 1) hbr rfl
        have c2 := box_cell (j := 2) hbr rfl
        have c3 := box_cell (j := 3) hbr rfl
        have c4 := box_cell (j := 4) hbr rfl
        rw [hnO]
        have hO : Hid (O = O) := rfl
        clear hnO
        go_wp2_with fail
        clear c0 c1 c2 c3 c4
        refine (hp.out _ _ (hV.later (hbw))).mono ?_
        rintro e w1 ⟨pa, pc, rfl, hps, hb1⟩
        have hb0 := Below.step (hbw) hb1
        go_wp2_with fail
        go_loopg [3, 75] ps.length (fun g m i wr => ∃ j : Nat, g + j = ps.length ∧ i = .int .i64 j ∧ m = .int .i64 (O + sizeL (ps.take j) : Nat) ∧ Below w1.heap.size w1 wr)
        case atStart => exact ⟨0, by omega, rfl, by first | (rw [hO.out]; simp [sizeL]; done) | simp [sizeL], Below.refl _ _⟩
        case round =>
          obtain ⟨j, hj, rfl, rfl, hbr⟩ := hrel
          have hpr := hps.later hbr
          have hdt := sizeL_take_le ps j
          by_cases hlt : j < ps.length
          · obtain ⟨x, hx⟩ : ∃ x, ps[j]? = some x := ⟨_, List.getElem?_eq_getElem hlt⟩
            obtain ⟨b, off, xs, rfl, hxS, hxc, hxr⟩ := hpr.at_ hx
            have hxn := nodes_mem (List.mem_of_getElem? hx)
            have hcx := ih x.nodes (by omega) x rfl
            have hdt1 := sizeL_take_le ps (j + 1)
            have hsx := hid (sizeL_succ hx)
            have hdx : sizeL (ps.take j) + x.size ≤ sizeL ps := by rw [← hsx.out]; exact hdt1
            obtain ⟨xk, xn, xsx, xl, xfn, xfv⟩ := x
            obtain ⟨xla, xlc, xfa, xfc, rfl, _⟩ := hxr.inv
            obtain ⟨c0, c1, c2, c3, c4⟩ := five hxc
            clear hxc
            go_wp2_with fail
            refine (hcx _ _ (by omega) (by omega) (hxr.later (below_new _ _))).mono ?_
            rintro e w2 ⟨rfl, hb2⟩
            go_wp2_with fail
            go_roundg (ps.length - (j + 1))
            case measure => omega
            case rel => exact ⟨j + 1, by omega, by go_num, by rw [hsx.out]; go_num, hbr.step ((below_new _ _).step hb2)⟩
          · have he : Hid (R = O + sizeL (ps.take j)) := by
              have : j = ps.length := by omega
              subst this
              show _ = _
              rw [List.take_length]; exact hd.out
            go_wp2_with fail
            go_ret
            exact ⟨by rw [he.out]; rfl, hb0.step hbr⟩
  · have hO : Hid (PVal.own (.mk k n s l fn fv) = 1) := by show _ = _; simp [PVal.own, h2, h3, h4, h5, h6]
    generalize PVal.own (.mk k n s l fn fv) = O at *
    have b2 : (k == 2) = false := by simp [h2]
    have b3 : (k == 3) = false := by simp [h3]
    have b4 : (k == 4) = false := by simp [h4]
    have b5 : (k == 5) = false := by simp [h5]
    have b6 : (k == 6) = false := by simp [h6]
    go_enter Tryd.func22, Tryd.ntmps22
    go_wp2_with fail
    refine (hp.out _ _ (hV.later (below_new w _))).mono ?_
    rintro e w1 ⟨pa, pc, rfl, hps, hb1⟩
    have hb0 := Below.step (below_new w _) hb1
    go_wp2_with fail
    go_loopg [3, 75] ps.length (fun g m i wr => ∃ j : Nat, g + j = ps.length ∧ i = .int .i64 j ∧ m = .int .i64 (O + sizeL (ps.take j) : Nat) ∧ Below w1.heap.size w1 wr)
    case atStart => exact ⟨0, by omega, rfl, by first | (rw [hO.out]; simp [sizeL]; done) | simp [sizeL], Below.refl _ _⟩
    case round =>
      obtain ⟨j, hj, rfl, rfl, hbr⟩ := hrel
      have hpr := hps.later hbr
      have hdt := sizeL_take_le ps j
      by_cases hlt : j < ps.length
      · obtain ⟨x, hx⟩ : ∃ x, ps[j]? = some x := ⟨_, List.getElem?_eq_getElem hlt⟩
        obtain ⟨b, off, xs, rfl, hxS, hxc, hxr⟩ := hpr.at_ hx
        have hxn := nodes_mem (List.mem_of_getElem? hx)
        have hcx := ih x.nodes (by omega) x rfl
        have hdt1 := sizeL_take_le ps (j + 1)
        have hsx := hid (sizeL_succ hx)
        have hdx : sizeL (ps.take j) + x.size ≤ sizeL ps := by rw [← hsx.out]; exact hdt1
        obtain ⟨xk, xn, xsx, xl, xfn, xfv⟩ := x
        obtain ⟨xla, xlc, xfa, xfc, rfl, _⟩ := hxr.inv
        obtain ⟨c0, c1, c2, c3, c4⟩ := five hxc
        clear hxc
        go_wp2_with fail
        refine (hcx _ _ (by omega) (by omega) (hxr.later (below_new _ _))).mono ?_
        rintro e w2 ⟨rfl, hb2⟩
        go_wp2_with fail
        go_roundg (ps.length - (j + 1))
        case measure => omega
        case rel => exact ⟨j + 1, by omega, by go_num, by rw [hsx.out]; go_num, hbr.step ((below_new _ _).step hb2)⟩
      · have he : Hid (R = O + sizeL (ps.take j)) := by
          have : j = ps.length := by omega
          subst this
          show _ = _
          rw [List.take_length]; exact hd.out
        go_wp2_with fail
        go_ret
        exact ⟨by rw [he.out]; rfl, hb0.step hbr⟩
theorem size_calls (V : PVal) (w : World) (cs : List Value) (hN : V.nodes ≤ 20000) (hV : Rd w (Now w) V cs) :
    Calls Tryd.prog 22 #[.agg cs.toArray] w fun e w' => e = .returned (.int .i64 V.size) ∧ Below w.heap.size w w' := size_big V w cs (by omega) (size_fits V hV.fits hN) hV
end Go.Proofs.YtckdgmjekfpcjaaDoor

namespace Go.Proofs.YtckdgmjekfpcjaaDoor
open Go.RowKit Go.Proofs

set_option maxRecDepth 100000 in
set_option maxHeartbeats 1000000 in
theorem good_big (V : PVal) (w : World) (cs : List Value) (hN : V.nodes ≤ 1000000000000) (hsn : V.size ≤ 9000000000000000000) (hT : Tabs w) (hV : Rd w (Now w) V cs) :
    Calls Tryd.prog 19 #[.agg cs.toArray] w fun e w' => e = .returned (.int .i64 V.good) ∧ Below w.heap.size w w' := by
  have ha := hid (all_calls (E := fun _ => True) (fun _ _ _ _ => trivial) 29 formedB (fun V w cs _ h => formed_calls V w cs h) (enters_of Tryd.func29 (by kernel_rfl) rfl) V)
  have hb := hid (all_calls Tabs.stays 30 spelledB spelled_calls (enters_of Tryd.func30 (by kernel_rfl) rfl) V)
  have hc := hid (all_calls (E := fun _ => True) (fun _ _ _ _ => trivial) 31 fewB few_calls (enters_of Tryd.func31 (by kernel_rfl) rfl) V)
  have hd := hid (depth_big V)
  have hs := hid (fun w cs h => size_big V w cs h hsn)
  have hT := hid hT
  have hg : Hid (V.good = if V.all formedB = false then 4 else if V.all spelledB = false then 11 else if V.all fewB = false then 15 else if 8 < V.depth then 3 else if 2048 < V.size then 2 else 0) := rfl
  have hdn := depth_le_nodes V
  generalize V.all formedB = A at *
  generalize V.all spelledB = B at *
  generalize V.all fewB = C at *
  generalize V.depth = D at *
  generalize V.size = S at *
  generalize V.good = R at *
  have hV0 := hid hV
  obtain ⟨k, n, s, l, fn, fv⟩ := V
  obtain ⟨la, lc, fa, fc, rfl, hk, hn, hsz, hlc, hlm, hfc, hfm, hL, hF⟩ := hV.inv
  clear hV
  go_enter Tryd.func19, Tryd.ntmps19
  go_wp2_with fail
  refine (ha.out _ _ trivial hN (hV0.out.later (below_new _ _))).mono ?_
  rintro e w1 ⟨rfl, h1⟩
  have hb1 := (below_new w _).step h1
  cases A with
  | false =>
    go_wp2_with fail
    go_ret
    exact ⟨by rw [hg.out]; rfl, hb1⟩
  | true =>
  have a0 := box_cell (j := 0) h1 rfl
  have a1 := box_cell (j := 1) h1 rfl
  have a2 := box_cell (j := 2) h1 rfl
  have a3 := box_cell (j := 3) h1 rfl
  have a4 := box_cell (j := 4) h1 rfl
  go_wp2_with fail
  refine (hb.out _ _ (Tabs.stays _ _ hT.out hb1) hN (hV0.out.later hb1)).mono ?_
  rintro e w2 ⟨rfl, h2⟩
  replace h2 := h1.step h2
  clear a0 a1 a2 a3 a4
  have hb2 := (below_new w _).step h2
  cases B with
  | false =>
    go_wp2_with fail
    go_ret
    exact ⟨by rw [hg.out]; rfl, hb2⟩
  | true =>
  have a0 := box_cell (j := 0) h2 rfl
  have a1 := box_cell (j := 1) h2 rfl
  have a2 := box_cell (j := 2) h2 rfl
  have a3 := box_cell (j := 3) h2 rfl
  have a4 := box_cell (j := 4) h2 rfl
  go_wp2_with fail
  refine (hc.out _ _ trivial hN (hV0.out.later hb2)).mono ?_
  rintro e w3 ⟨rfl, h3⟩
  replace h3 := h2.step h3
  clear a0 a1 a2 a3 a4
  have hb3 := (below_new w _).step h3
  cases C with
  | false =>
    go_wp2_with fail
    go_ret
    exact ⟨by rw [hg.out]; rfl, hb3⟩
  | true =>
  have a0 := box_cell (j := 0) h3 rfl
  have a1 := box_cell (j := 1) h3 rfl
  have a2 := box_cell (j := 2) h3 rfl
  have a3 := box_cell (j := 3) h3 rfl
  have a4 := box_cell (j := 4) h3 rfl
  go_wp2_with fail
  refine (hd.out _ _ hN (hV0.out.later hb3)).mono ?_
  rintro e w4 ⟨rfl, h4⟩
  replace h4 := h3.step h4
  clear a0 a1 a2 a3 a4
  have hb4 := (below_new w _).step h4
  by_cases h8 : 8 < D
  · have h8' : (8 : Int) < (D : Int) := by omega
    have he : Hid (R = 3) := by show _ = _; rw [hg.out]; simp [h8]
    go_wp2_with fail
    go_ret
    exact ⟨by rw [he.out]; rfl, hb4⟩
  have a0 := box_cell (j := 0) h4 rfl
  have a1 := box_cell (j := 1) h4 rfl
  have a2 := box_cell (j := 2) h4 rfl
  have a3 := box_cell (j := 3) h4 rfl
  have a4 := box_cell (j := 4) h4 rfl
  go_wp2_with fail
  refine (hs.out _ _ hN (hV0.out.later hb4)).mono ?_
  rintro e w5 ⟨rfl, h5⟩
  replace h5 := h4.step h5
  clear a0 a1 a2 a3 a4
  have hb5 := (below_new w _).step h5
  by_cases h20 : 2048 < S
  · have he : Hid (R = 2) := by show _ = _; rw [hg.out]; simp [h8, h20]
    go_wp2_with fail
    go_ret
    exact ⟨by rw [he.out]; rfl, hb5⟩
  · have he : Hid (R = 0) := by show _ = _; rw [hg.out]; simp [h8, h20]
    go_wp2_with fail
    go_ret
    exact ⟨by rw [he.out]; rfl, hb5⟩

theorem good_calls (V : PVal) (w : World) (cs : List Value) (hN : V.nodes ≤ 20000) (hT : Tabs w) (hV : Rd w (Now w) V cs) :
    Calls Tryd.prog 19 #[.agg cs.toArray] w fun e w' => e = .returned (.int .i64 V.good) ∧ Below w.heap.size w w' := good_big V w cs (by omega) (size_fits V hV.fits hN) hT hV

theorem size_tells (V : PVal) (w : World) (cs : List Value) (hN : V.nodes ≤ 20000) (hT : Tabs w) (hV : Rd w (Now w) V cs) :
    Calls Tryd.prog 8 #[.agg cs.toArray] w fun e w' => e = .returned (.tuple #[.int .i64 (if V.good = 0 then V.size else 0), .int .i64 V.good]) ∧ Below w.heap.size w w' := by
  have hg := hid (fun w cs => good_calls V w cs hN)
  have hs := hid (size_calls V)
  have hT := hid hT
  have hV0 := hid hV
  generalize V.good = G at *
  generalize V.size = S at *
  obtain ⟨k, n, s, l, fn, fv⟩ := V
  obtain ⟨la, lc, fa, fc, rfl, hk, hn, hsz, hlc, hlm, hfc, hfm, hL, hF⟩ := hV.inv
  clear hV
  go_enter Tryd.func8, Tryd.ntmps8
  go_wp2_with fail
  refine (hg.out _ _ (Tabs.stays _ _ hT.out (below_new _ _)) (hV0.out.later (below_new _ _))).mono ?_
  rintro e w1 ⟨rfl, h1⟩
  have hb1 := (below_new w _).step h1
  by_cases hG : G = 0
  · subst hG
    have a0 := box_cell (j := 0) h1 rfl
    have a1 := box_cell (j := 1) h1 rfl
    have a2 := box_cell (j := 2) h1 rfl
    have a3 := box_cell (j := 3) h1 rfl
    have a4 := box_cell (j := 4) h1 rfl
    go_wp2_with fail
    refine (hs.out _ _ hN (hV0.out.later hb1)).mono ?_
    rintro e w2 ⟨rfl, h2⟩
    go_wp2_with fail
    go_ret2
    exact ⟨rfl, hb1.step h2⟩
  · have hG' : (G != 0) = true := by simp [hG]
    go_wp2_with fail
    go_ret2
    exact ⟨by simp only []; rfl, hb1⟩

/-- cmp.Or: the first that is not nought. -/
def orI : List Int → Int
  | [] => 0
  | x :: r => if x = 0 then orI r else x
theorem orI_drop (xs : List Int) : ∀ j, (∀ i, i < j → xs.getD i 0 = 0) → orI xs = orI (xs.drop j) := by
  induction xs with
  | nil => intro j _; simp [orI]
  | cons x r ih =>
    intro j h
    match j with
    | 0 => rfl
    | j + 1 =>
      have h0 : x = 0 := h 0 (by omega)
      simp only [orI, h0, if_true, List.drop_succ_cons]
      exact ih j (fun i hi => h (i + 1) (by omega))
theorem orI_zero (xs : List Int) : (∀ i, i < xs.length → xs.getD i 0 = 0) → orI xs = 0 := by
  intro h
  rw [orI_drop xs xs.length h, List.drop_length]; rfl
theorem orI_at (xs : List Int) (j : Nat) (hj : j < xs.length) (h : ∀ i, i < j → xs.getD i 0 = 0) (hn : xs.getD j 0 ≠ 0) : orI xs = xs.getD j 0 := by
  rw [orI_drop xs j h, List.drop_eq_getElem_cons hj]
  have e : xs.getD j 0 = xs[j] := by simp [List.getD, List.getElem?_eq_getElem hj]
  rw [e] at hn ⊢
  simp [orI, hn]

theorem or_int_calls (xs : List Int) (hl : xs.length ≤ 100) (b c : Nat) (w : World) (hx : ∀ i, i < xs.length → w.cell? ⟨b, 0 + i, none⟩ = some (.int .i64 (xs.getD i 0))) :
    Calls Tryd.prog 37 #[.slice (some ⟨b, 0, none⟩) xs.length c] w fun e w' => e = .returned (.int .i64 (orI xs)) ∧ w = w' := by
  have hx := hid hx
  go_enter Tryd.func37, Tryd.ntmps37
  go_wp2_with fail
  go_loopg [8] xs.length (fun g i wr => ∃ j : Nat, g + j = xs.length ∧ i = .int .i64 j ∧ (∀ i, i < j → xs.getD i 0 = 0) ∧ wr = w)
  case atStart => exact ⟨0, by omega, rfl, fun i hi => by omega, rfl⟩
  case round =>
    obtain ⟨j, hj, rfl, hz, rfl⟩ := hrel
    have hz := hid hz
    by_cases hlt : j < xs.length
    · have cj : wr.cell? ⟨b, j, none⟩ = some (.int .i64 (xs.getD j 0)) := by have := hx.out j hlt; rwa [Nat.zero_add] at this
      have hat := hid (orI_at xs j hlt hz.out)
      have hx0 := hid (rfl : xs.getD j 0 = xs.getD j 0)
      generalize hv : xs.getD j 0 = v at *
      have hv := hid hv
      by_cases h0 : v = 0
      · subst h0
        go_wp2_with fail
        go_roundg (xs.length - (j + 1))
        case measure => omega
        case rel => exact ⟨j + 1, by omega, by go_num, fun i hi => by
          rcases Nat.lt_or_ge i j with h | h
          · exact hz.out i h
          · have : i = j := by omega
            subst this; exact hv.out, rfl⟩
      · have he : Hid (orI xs = v) := hat.out h0
        have h0' : (v != 0) = true := by simp [h0]
        go_wp2_with fail
        go_ret
        exact ⟨by rw [he.out]; rfl, rfl⟩
    · have he : Hid (orI xs = 0) := orI_zero xs (fun i hi => hz.out i (by omega))
      go_wp2_with fail
      go_ret
      exact ⟨by rw [he.out]; rfl, rfl⟩

theorem or_errno_calls (xs : List Int) (hl : xs.length ≤ 100) (b c : Nat) (w : World) (hx : ∀ i, i < xs.length → w.cell? ⟨b, 0 + i, none⟩ = some (.int .i64 (xs.getD i 0))) :
    Calls Tryd.prog 23 #[.slice (some ⟨b, 0, none⟩) xs.length c] w fun e w' => e = .returned (.int .i64 (orI xs)) ∧ w = w' := by
  have hx := hid hx
  go_enter Tryd.func23, Tryd.ntmps23
  go_wp2_with fail
  go_loopg [8] xs.length (fun g i wr => ∃ j : Nat, g + j = xs.length ∧ i = .int .i64 j ∧ (∀ i, i < j → xs.getD i 0 = 0) ∧ wr = w)
  case atStart => exact ⟨0, by omega, rfl, fun i hi => by omega, rfl⟩
  case round =>
    obtain ⟨j, hj, rfl, hz, rfl⟩ := hrel
    have hz := hid hz
    by_cases hlt : j < xs.length
    · have cj : wr.cell? ⟨b, j, none⟩ = some (.int .i64 (xs.getD j 0)) := by have := hx.out j hlt; rwa [Nat.zero_add] at this
      have hat := hid (orI_at xs j hlt hz.out)
      generalize hv : xs.getD j 0 = v at *
      have hv := hid hv
      by_cases h0 : v = 0
      · subst h0
        go_wp2_with fail
        go_roundg (xs.length - (j + 1))
        case measure => omega
        case rel => exact ⟨j + 1, by omega, by go_num, fun i hi => by
          rcases Nat.lt_or_ge i j with h | h
          · exact hz.out i h
          · have : i = j := by omega
            subst this; exact hv.out, rfl⟩
      · have he : Hid (orI xs = v) := hat.out h0
        have h0' : (v != 0) = true := by simp [h0]
        go_wp2_with fail
        go_ret
        exact ⟨by rw [he.out]; rfl, rfl⟩
    · have he : Hid (orI xs = 0) := orI_zero xs (fun i hi => hz.out i (by omega))
      go_wp2_with fail
      go_ret
      exact ⟨by rw [he.out]; rfl, rfl⟩

def icmp (x y : Int) : Int := if x < y then -1 else if y < x then 1 else 0
theorem cmp_int_calls (x y : Int) (w : World) : Calls Tryd.prog 36 #[.int .i64 x, .int .i64 y] w fun e w' => e = .returned (.int .i64 (icmp x y)) ∧ w = w' := by
  unfold icmp
  by_cases h1 : x < y
  · rw [if_pos h1]
    go_enter Tryd.func36, Tryd.ntmps36
    go_wp2
    go_ret
    exact ⟨rfl, rfl⟩
  by_cases h2 : y < x
  · rw [if_neg h1, if_pos h2]
    go_enter Tryd.func36, Tryd.ntmps36
    go_wp2
    go_ret
    exact ⟨rfl, rfl⟩
  · rw [if_neg h1, if_neg h2]
    go_enter Tryd.func36, Tryd.ntmps36
    go_wp2
    go_ret
    exact ⟨rfl, rfl⟩
theorem cmp_i64_calls (x y : Int) (w : World) : Calls Tryd.prog 38 #[.int .i64 x, .int .i64 y] w fun e w' => e = .returned (.int .i64 (icmp x y)) ∧ w = w' := by
  unfold icmp
  by_cases h1 : x < y
  · rw [if_pos h1]
    go_enter Tryd.func38, Tryd.ntmps38
    go_wp2
    go_ret
    exact ⟨rfl, rfl⟩
  by_cases h2 : y < x
  · rw [if_neg h1, if_pos h2]
    go_enter Tryd.func38, Tryd.ntmps38
    go_wp2
    go_ret
    exact ⟨rfl, rfl⟩
  · rw [if_neg h1, if_neg h2]
    go_enter Tryd.func38, Tryd.ntmps38
    go_wp2
    go_ret
    exact ⟨rfl, rfl⟩
end Go.Proofs.YtckdgmjekfpcjaaDoor
