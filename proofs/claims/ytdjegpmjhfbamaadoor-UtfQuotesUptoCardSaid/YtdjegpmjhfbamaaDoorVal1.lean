/-
  Walks: value.parts, Depth, Count: each returns what the plain value says, for every value that lies in memory (of at most 20000 nodes where a number could wrap).
-/
import Derived.Handy
import Derived.Deep.LoopGhost
import Derived.Test.YtdjegpmjhfbamaaDoorMem
import Derived.Test.YtdjegpmjhfbamaaDoorProg
namespace Go.Proofs.YtdjegpmjhfbamaaDoor
open Go.RowKit Go.Proofs

theorem info52 : (Tryd.prog.info? 52).map (fun i => (i.zero, i.size, i.bytes)) = some (some (.agg #[.int .i64 0, .int .i64 0, .string ByteArray.empty, .slice none 0 0, .slice none 0 0]), 5, 80) := by kernel_rfl

/-- A function of a value that tells one thing and makes at most new memory. -/
def Tells (w : World) (v : Value) (e : Ending) (w' : World) : Prop := e = .returned v ∧ Below w.heap.size w w'

set_option maxRecDepth 100000 in
theorem parts_calls (V : PVal) (w : World) (cs : List Value) (h : Rd w (Now w) V cs) :
    Calls Tryd.prog 86 #[.agg cs.toArray] w fun e w' => ∃ la cap, e = .returned (.slice la V.parts.length cap) ∧ RdL w' (Now w') V.parts (.slice la V.parts.length cap) ∧ Below w.heap.size w w' := by
  obtain ⟨k, n, s, l, fn, fv⟩ := V
  have h0 := h
  obtain ⟨la, lc, fa, fc, rfl, hk, hn, hs, hlc, hlm, hfc, hfm, hL, hF⟩ := h.inv
  by_cases h5 : k = 5
  · subst h5
    go_enter Tryd.func86, Tryd.ntmps86
    go_wp2_with fail
    go_ret
    exact ⟨la, lc, rfl, hL.later (below_new _ _), below_new _ _⟩
  by_cases h6 : k = 6
  · subst h6
    clear h5
    obtain ⟨i0, hi, hz0, hz1, hz2⟩ := info_parts info52
    have hn0 : Hid (PVal.parts (.mk 6 n s l fn fv) = fv) := rfl
    have hfe := hid hF.1
    go_enter Tryd.func86, Tryd.ntmps86
    go_wp2_with (first
      | (at_make; refine wpList_make_own _ rfl _ _ 49 rfl w.heap.size 52 i0 _ 5 Tryd.underlying49 hi hz0 hz1 .i64 .i64 _ fv.length rfl rfl rfl (by rw [hz2]; omega) (by unfold maxLen; omega) (by simp) ?_; intro w1 hown1 hg1; have hb1 := grown_below hg1; have c4 : w1.cell? ⟨w.heap.size, 4, none⟩ = some (.slice fa fv.length fc) := box_cell hb1 rfl))
    have hF1 := (hF.later (below_new w _)).later hb1
    have hb0 : Below w.heap.size w w1 := (below_new w _).step hb1
    have hown1' : w1.ownsRow w.heap.size 52 5 (.slice (some ⟨w.heap.size + 1, 0, none⟩) 0 fv.length) 0 [] := by simpa using hown1
    have hsz : w.heap.size < w1.heap.size := by have := hb1.size; simp at this; omega
    go_loopg [3, 21] fv.length (fun g o i wr => ∃ j : Nat, g + j = fv.length ∧ i = .int .i64 j ∧ Below w.heap.size w wr ∧ OwnL wr (· < w.heap.size) w.heap.size 52 (fv.take j) o)
    case atStart => exact ⟨0, by omega, rfl, hb0, OwnL.empty hown1' (fun _ h => by simp only [Value.ownBlock]; intro e; injection e with e; omega)⟩
    case round =>
      obtain ⟨j, hj, rfl, hbr, hown⟩ := hrel
      by_cases hlt : j < fv.length
      · obtain ⟨x, hx⟩ : ∃ x, fv[j]? = some x := ⟨_, List.getElem?_eq_getElem hlt⟩
        obtain ⟨nm, hnm⟩ : ∃ nm, fn[j]? = some nm := ⟨_, List.getElem?_eq_getElem (by rw [hfe.out]; exact hlt)⟩
        obtain ⟨b, off, xs, rfl, hxS, hxc, hxr, hnz⟩ := hF.at_ hnm hx
        obtain ⟨xk, xn, xsx, xl, xfn, xfv⟩ := x
        obtain ⟨xla, xlc, xfa, xfc, rfl, _⟩ := hxr.inv
        obtain ⟨c0, c1, c2, c3, c4, c5⟩ := six (cells_later hbr hxS hxc)
        clear hxc
        have hl : Hid ((fv.take j).length = j) := by show _ = _; simp; omega
        obtain ⟨oa, oc, hof, hoc⟩ := hown.form
        rw [hl.out] at hof hoc
        subst hof
        go_wp2_with (first
          | (at_builtin; (refine wpList_append_val _ rfl _ _ 49 rfl w.heap.size 52 i0 _ Tryd.underlying49 hi hz0 hz1 hz2 rfl (· < w.heap.size) (fv.take j) _ j hl.out rfl (hown.keep ((below_new _ _).step (below_new _ _)) (fun b hb => Nat.lt_of_lt_of_le hb hbr.size)) ⟨wr.heap.size + 1, 0, none⟩ 1 [.int .i64 xk, .int .i64 xn, .string xsx, .slice xla xl.length xlc, .slice xfa xfv.length xfc] (.mk xk xn xsx xl xfn xfv) rfl (cells_new _ _ (by simp) _ _) (hxr.keep (fun _ h => h) (fun b hb => (hbr.step ((below_new _ _).step (below_new _ _))).block b hb)) (by omega) (fun _ h => h) (hbr.step ((below_new _ _).step (below_new _ _))).size ?_); intro v' w2 hown2 hg2 hlow))
        go_roundg (fv.length - (j + 1))
        case measure => omega
        case rel => exact ⟨j + 1, by omega, by go_num, (hbr.step ((below_new _ _).step (below_new _ _))).trans ⟨hg2.os, hg2.tape, hg2.output, hg2.size, hlow⟩, by rw [take_succ_of hx]; exact hown2⟩
      · go_wp2_with fail
        obtain rfl : j = fv.length := by omega
        go_ret
        rw [List.take_length] at hown
        obtain ⟨oa, oc, rfl, hoc⟩ := hown.form
        rw [hn0.out]
        refine ⟨oa, oc, rfl, hown.read (fun b hb => Nat.lt_of_lt_of_le hb hbr.size) ?_ (by omega), hbr⟩
        exact fun b hb => hown.lt b hb
  · have b5 : (k == 5) = false := by simpa using h5
    have b6 : (k == 6) = false := by simpa using h6
    go_enter Tryd.func86, Tryd.ntmps86
    go_wp2_with fail
    go_ret
    have e0 : PVal.parts (.mk k n s l fn fv) = [] := by simp [PVal.parts, h5, h6]
    rw [e0]
    exact ⟨none, 0, rfl, ⟨none, 0, fun _ => [], rfl, Nat.le_refl _, by simp, .inl rfl, fun i x hx => by simp at hx⟩, below_new _ _⟩

theorem depth_big : ∀ (V : PVal) (w : World) (cs : List Value), V.nodes ≤ 1000000000000 → Rd w (Now w) V cs →
    Calls Tryd.prog 43 #[.agg cs.toArray] w fun e w' => e = .returned (.int .i64 V.depth) ∧ Below w.heap.size w w' := by
  intro V
  induction hN : V.nodes using Nat.strongRecOn generalizing V with
  | _ N ih =>
  subst hN
  intro w cs hN hV
  obtain ⟨k, n, s, l, fn, fv⟩ := V
  obtain ⟨la, lc, fa, fc, rfl, hk, hn, hs, hlc, hlm, hfc, hfm, hL, hF⟩ := hV.inv
  by_cases h56 : k = 5 ∨ k = 6
  · have hd : Hid (PVal.depth (.mk k n s l fn fv) = depthL (PVal.parts (.mk k n s l fn fv)) + 1) := depth_some h56
    have hp := parts_calls (.mk k n s l fn fv) _ _ (hV.later (below_new w (.cells #[.int .i64 k, .int .i64 n, .string s, .slice la l.length lc, .slice fa fv.length fc] 52)))
    have hpn := nodes_parts (.mk k n s l fn fv)
    generalize PVal.parts (.mk k n s l fn fv) = ps at *
    have hpl := nodesL_length ps
    rcases h56 with rfl | rfl
    all_goals
      go_enter Tryd.func43, Tryd.ntmps43
      go_wp2_with fail
      refine hp.mono ?_
      rintro e w1 ⟨pa, pc, rfl, hps, hb1⟩
      have hb0 : Below w.heap.size w w1 := (below_new w _).step hb1
      go_wp2_with fail
      go_loopg [3, 17] ps.length (fun g m i wr => ∃ j : Nat, g + j = ps.length ∧ i = .int .i64 j ∧ m = .int .i64 (depthL (ps.take j)) ∧ Below w1.heap.size w1 wr)
      case atStart => exact ⟨0, by omega, rfl, rfl, Below.refl _ _⟩
      case round =>
        obtain ⟨j, hj, rfl, rfl, hbr⟩ := hrel
        have hpr := hps.later hbr
        have hdt := Nat.le_trans (depthL_take_le ps j) (depthL_le_nodesL ps (fun x _ => depth_le_nodes x))
        by_cases hlt : j < ps.length
        · obtain ⟨x, hx⟩ : ∃ x, ps[j]? = some x := ⟨_, List.getElem?_eq_getElem hlt⟩
          obtain ⟨b, off, xs, rfl, hxS, hxc, hxr⟩ := hpr.at_ hx
          have hxn := nodes_mem (List.mem_of_getElem? hx)
          have hcx := ih x.nodes (by omega) x rfl
          have hdx := depth_le_nodes x
          have hsx := hid (depthL_succ hx)
          obtain ⟨xk, xn, xsx, xl, xfn, xfv⟩ := x
          obtain ⟨xla, xlc, xfa, xfc, rfl, _⟩ := hxr.inv
          obtain ⟨c0, c1, c2, c3, c4⟩ := five hxc
          clear hxc
          go_wp2_with fail
          refine (hcx _ _ (by omega) (hxr.later (below_new _ _))).mono ?_
          rintro e w2 ⟨rfl, hb2⟩
          go_wp2_with fail
          all_goals
            go_roundg (ps.length - (j + 1))
            case measure => omega
            case rel => exact ⟨j + 1, by omega, by go_num, by rw [hsx.out]; go_num, hbr.step ((below_new _ _).step hb2)⟩
        · go_wp2_with fail
          obtain rfl : j = ps.length := by omega
          rw [List.take_length]
          go_ret
          exact ⟨by rw [hd.out]; go_num, hb0.step hbr⟩
  · have h5 : ¬ k = 5 := fun h => h56 (.inl h)
    have h6 : ¬ k = 6 := fun h => h56 (.inr h)
    have b5 : (k != 5) = true := by simp [h5]
    have b6 : (k != 6) = true := by simp [h6]
    go_enter Tryd.func43, Tryd.ntmps43
    go_wp2_with fail
    go_ret
    exact ⟨by simp [PVal.depth, h5, h6], below_new _ _⟩

theorem count_big : ∀ (V : PVal) (w : World) (cs : List Value), V.nodes ≤ 1000000000000 → Rd w (Now w) V cs →
    Calls Tryd.prog 45 #[.agg cs.toArray] w fun e w' => e = .returned (.int .i64 V.count) ∧ Below w.heap.size w w' := by
  intro V
  induction hN : V.nodes using Nat.strongRecOn generalizing V with
  | _ N ih =>
  subst hN
  intro w cs hN hV
  have hd := hid (count_parts V)
  have hpn := nodes_parts V
  have hp := fun w cs h => parts_calls V w cs h
  have hp := hid hp
  generalize V.parts = ps at *
  have hpl := nodesL_length ps
  obtain ⟨k, n, s, l, fn, fv⟩ := V
  obtain ⟨la, lc, fa, fc, rfl, hk, hn, hs, hlc, hlm, hfc, hfm, hL, hF⟩ := hV.inv
  go_enter Tryd.func45, Tryd.ntmps45
  go_wp2_with fail
  refine (hp.out _ _ (hV.later (below_new _ _))).mono ?_
  rintro e w1 ⟨pa, pc, rfl, hps, hb1⟩
  have hb0 : Below w.heap.size w w1 := (below_new w _).step hb1
  go_wp2_with fail
  go_loopg [3, 9] ps.length (fun g m i wr => ∃ j : Nat, g + j = ps.length ∧ i = .int .i64 j ∧ m = .int .i64 (countL (ps.take j) + 1 : Nat) ∧ Below w1.heap.size w1 wr)
  case atStart => exact ⟨0, by omega, rfl, rfl, Below.refl _ _⟩
  case round =>
    obtain ⟨j, hj, rfl, rfl, hbr⟩ := hrel
    have hpr := hps.later hbr
    have hdt := Nat.le_trans (countL_take_le ps j) (countL_le_nodesL ps (fun x _ => count_le_nodes x))
    by_cases hlt : j < ps.length
    · obtain ⟨x, hx⟩ : ∃ x, ps[j]? = some x := ⟨_, List.getElem?_eq_getElem hlt⟩
      obtain ⟨b, off, xs, rfl, hxS, hxc, hxr⟩ := hpr.at_ hx
      have hxn := nodes_mem (List.mem_of_getElem? hx)
      have hcx := ih x.nodes (by omega) x rfl
      have hdx := count_le_nodes x
      have hsx := hid (countL_succ hx)
      obtain ⟨xk, xn, xsx, xl, xfn, xfv⟩ := x
      obtain ⟨xla, xlc, xfa, xfc, rfl, _⟩ := hxr.inv
      obtain ⟨c0, c1, c2, c3, c4⟩ := five hxc
      clear hxc
      go_wp2_with fail
      refine (hcx _ _ (by omega) (hxr.later (below_new _ _))).mono ?_
      rintro e w2 ⟨rfl, hb2⟩
      go_wp2_with fail
      go_roundg (ps.length - (j + 1))
      case measure => omega
      case rel => exact ⟨j + 1, by omega, by go_num, by rw [hsx.out]; go_num, hbr.step ((below_new _ _).step hb2)⟩
    · go_wp2_with fail
      obtain rfl : j = ps.length := by omega
      rw [List.take_length]
      go_ret
      exact ⟨by rw [hd.out]; rfl, hb0.step hbr⟩
theorem depth_calls (V : PVal) (w : World) (cs : List Value) (hN : V.nodes ≤ 20000) (hV : Rd w (Now w) V cs) :
    Calls Tryd.prog 43 #[.agg cs.toArray] w fun e w' => e = .returned (.int .i64 V.depth) ∧ Below w.heap.size w w' := depth_big V w cs (by omega) hV
theorem count_calls (V : PVal) (w : World) (cs : List Value) (hN : V.nodes ≤ 20000) (hV : Rd w (Now w) V cs) :
    Calls Tryd.prog 45 #[.agg cs.toArray] w fun e w' => e = .returned (.int .i64 V.count) ∧ Below w.heap.size w w' := count_big V w cs (by omega) hV
end Go.Proofs.YtdjegpmjhfbamaaDoor
