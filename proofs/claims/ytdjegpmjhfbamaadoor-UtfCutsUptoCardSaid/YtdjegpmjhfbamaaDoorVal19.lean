/-
  Walks: the reference's walked, Vast.
-/
import Derived.Test.YtdjegpmjhfbamaaDoorVal9
import Derived.Test.YtdjegpmjhfbamaaDoorQuiet
import Derived.Deep.RegionWith
import Derived.Outline
namespace Go.Proofs.YtdjegpmjhfbamaaDoor
open Go.RowKit Go.Proofs

/-- How much is left behind a value: none: it is too vast. -/
def after (V : PVal) (L : Nat) : Option Nat := if V.nodes < L then some (L - V.nodes) else none
theorem after_some {V : PVal} {L : Nat} (h : V.nodes < L) : after V L = some (L - V.nodes) := by rw [after, if_pos h]
theorem after_none {V : PVal} {L : Nat} (h : ¬ V.nodes < L) : after V L = none := by rw [after, if_neg h]

set_option maxRecDepth 100000 in
set_option maxHeartbeats 4000000 in
theorem walked_calls : ∀ (V : PVal) (L : Nat) (w : World) (cs : List Value), Rd w (Now w) V cs → 1 ≤ L → L ≤ 5000 →
    Calls Tryd.prog 82 #[.agg cs.toArray, .int .i64 L] w fun e w' => e = .returned (.tuple #[.int .i64 ((after V L).getD 0 : Nat), .bool (after V L).isSome]) ∧ Below w.heap.size w w' := by
  intro V
  induction hN : V.nodes using Nat.strongRecOn generalizing V with
  | _ N ih =>
  subst hN
  intro L w cs hV h1 hL5
  have hnode : Hid (V.nodes = V.nodes) := rfl
  have hS := hid (fun h => after_some (V := V) (L := L) h)
  have hZ := hid (fun h => after_none (V := V) (L := L) h)
  generalize after V L = R at *
  have hnn : V.nodes = 1 + nodesL V.l + nodesL V.fv := by cases V; simp [PVal.nodes, PVal.l, PVal.fv]; try omega
  generalize hM : V.nodes = M at *
  clear hM hnode
  obtain ⟨k, n, s, l, fn, fv⟩ := V
  simp only [PVal.l, PVal.fv] at hnn
  obtain ⟨la, lc, fa, fc, rfl, hk, hn, hsz, hlc, hlm, hfc, hfm, hLs, hF⟩ := hV.inv
  have hlen := hid hF.1
  go_enter Tryd.func82, Tryd.ntmps82
  go_wp2_with fail
  go_loopg [1, 6] l.length (fun g m i wr => ∃ j X : Nat, g + j = l.length ∧ i = .int .i64 j ∧ m = .int .i64 X ∧ X + 1 + nodesL (l.take j) = L ∧ Below (w.alloc (.cells #[.int .i64 k, .int .i64 n, .string s, .slice la l.length lc, .slice fa fv.length fc] 52)).heap.size (w.alloc (.cells #[.int .i64 k, .int .i64 n, .string s, .slice la l.length lc, .slice fa fv.length fc] 52)) wr)
  case atStart => exact ⟨0, L - 1, by omega, rfl, by go_num, by simp [nodesL]; omega, Below.refl _ _⟩
  case round =>
    obtain ⟨j, X, hj, rfl, rfl, hX, hbr⟩ := hrel
    have hbw := (below_new w _).step hbr
    have c3 := box_cell (j := 3) hbr rfl
    have c4 := box_cell (j := 4) hbr rfl
    have hpr := hLs.later hbw
    have hfr := hid (hF.later hbw)
    by_cases hx0 : j < l.length ∧ 0 < X
    · obtain ⟨hlt, hx0⟩ := hx0
      obtain ⟨x, hx⟩ : ∃ x, l[j]? = some x := ⟨_, List.getElem?_eq_getElem hlt⟩
      obtain ⟨b, off, xs, rfl, hxS, hxc, hxr⟩ := hpr.at_ hx
      have hxn := nodes_mem (List.mem_of_getElem? hx)
      have hcx := hid (ih x.nodes (by omega) x rfl X)
      have hsx := nodesL_succ hx
      have htl := nodesL_take_le l (j + 1)
      have has := hid (fun h => after_some (V := x) (L := X) h)
      have haz := hid (fun h => after_none (V := x) (L := X) h)
      generalize after x X = A at *
      generalize x.nodes = xN at *
      obtain ⟨xk, xn, xsx, xl, xfn, xfv⟩ := x
      obtain ⟨xla, xlc, xfa, xfc, rfl, _⟩ := hxr.inv
      obtain ⟨d0, d1, d2, d3, d4⟩ := five hxc
      clear hxc
      go_wp2_with fail
      refine (hcx.out _ _ hxr (by omega) (by omega)).mono ?_
      rintro e w2 ⟨rfl, hb2⟩
      by_cases hlt2 : xN < X
      · have ha := has.out hlt2
        subst ha
        go_wp2_with fail
        go_roundg (l.length - (j + 1))
        case measure => omega
        case rel => exact ⟨j + 1, X - xN, by omega, by go_num, by simp, by omega, hbr.step hb2⟩
      · have ha := haz.out hlt2
        subst ha
        have hR : Hid (R = none) := hZ.out (by omega)
        go_wp2_with fail
        go_ret2
        exact ⟨by rw [hR.out]; rfl, hbw.step hb2⟩
    by_cases hj1 : j < l.length
    · obtain rfl : X = 0 := by omega
      have htl := nodesL_take_le l j
      have hR : Hid (R = none) := hZ.out (by omega)
      go_wp2_with fail
      go_rounds 1
      all_goals go_ret2
      all_goals exact ⟨by rw [hR.out]; rfl, hbw⟩
    · obtain rfl : j = l.length := by omega
      obtain ⟨wo, hwo⟩ : ∃ wo, wo = wr := ⟨_, rfl⟩
      rw [List.take_length] at hX
      go_wp2_with fail
      subst hwo
      go_loopg [1, 9] fv.length (fun g m i wr => ∃ j Y : Nat, g + j = fv.length ∧ i = .int .i64 j ∧ m = .int .i64 Y ∧ Y + 1 + nodesL l + nodesL (fv.take j) = L ∧ Below (w.alloc (.cells #[.int .i64 k, .int .i64 n, .string s, .slice la l.length lc, .slice fa fv.length fc] 52)).heap.size (w.alloc (.cells #[.int .i64 k, .int .i64 n, .string s, .slice la l.length lc, .slice fa fv.length fc] 52)) wr)
      case atStart => exact ⟨0, X, by omega, rfl, rfl, by simp [nodesL]; omega, hbr⟩
      case round =>
        obtain ⟨j, Y, hj, rfl, rfl, hY, hbr⟩ := hrel
        have hbw := (below_new w _).step hbr
        have c3 := box_cell (j := 3) hbr rfl
        have c4 := box_cell (j := 4) hbr rfl
        have hpr := hF.later hbw
        by_cases hx0 : j < fv.length ∧ 0 < Y
        · obtain ⟨hlt, hx0⟩ := hx0
          obtain ⟨x, hx⟩ : ∃ x, fv[j]? = some x := ⟨_, List.getElem?_eq_getElem hlt⟩
          obtain ⟨nm, hnm⟩ : ∃ nm, fn[j]? = some nm := ⟨_, List.getElem?_eq_getElem (by rw [hlen.out]; exact hlt)⟩
          obtain ⟨b, off, xs, rfl, hxS, hxc, hxr, hnz⟩ := hpr.at_ hnm hx
          have hxn := nodes_mem (List.mem_of_getElem? hx)
          have hcx := hid (ih x.nodes (by omega) x rfl Y)
          have hsx := nodesL_succ hx
          have htl := nodesL_take_le fv (j + 1)
          have has := hid (fun h => after_some (V := x) (L := Y) h)
          have haz := hid (fun h => after_none (V := x) (L := Y) h)
          generalize after x Y = A at *
          generalize x.nodes = xN at *
          obtain ⟨xk, xn, xsx, xl, xfn, xfv⟩ := x
          obtain ⟨xla, xlc, xfa, xfc, rfl, _⟩ := hxr.inv
          obtain ⟨d0, d1, d2, d3, d4, d5⟩ := six hxc
          clear hxc
          go_wp2_with fail
          refine (hcx.out _ _ hxr (by omega) (by omega)).mono ?_
          rintro e w2 ⟨rfl, hb2⟩
          by_cases hlt2 : xN < Y
          · have ha := has.out hlt2
            subst ha
            go_wp2_with fail
            go_roundg (fv.length - (j + 1))
            case measure => omega
            case rel => exact ⟨j + 1, Y - xN, by omega, by go_num, by simp, by omega, hbr.step hb2⟩
          · have ha := haz.out hlt2
            subst ha
            have hR : Hid (R = none) := hZ.out (by omega)
            go_wp2_with fail
            go_ret2
            exact ⟨by rw [hR.out]; rfl, hbw.step hb2⟩
        · by_cases hj1 : j < fv.length
          · obtain rfl : Y = 0 := by omega
            have htl := nodesL_take_le fv j
            have hR : Hid (R = none) := hZ.out (by omega)
            go_wp2_with fail
            go_ret2
            exact ⟨by rw [hR.out]; rfl, hbw⟩
          · obtain rfl : j = fv.length := by omega
            rw [List.take_length] at hY
            by_cases hY0 : 0 < Y
            · have hR : Hid (R = some Y) := by show _ = _; rw [hS.out (by omega)]; congr 1; omega
              go_wp2_with fail
              go_ret2
              exact ⟨by rw [hR.out]; rfl, hbw⟩
            · obtain rfl : Y = 0 := by omega
              have hR : Hid (R = none) := hZ.out (by omega)
              go_wp2_with fail
              go_ret2
              exact ⟨by rw [hR.out]; rfl, hbw⟩

def vast : List PVal → Bool
  | l => decide (5000 ≤ nodesL l)
set_option maxRecDepth 100000 in
theorem vast_calls (l : List PVal) (la : Option Addr) (c : Nat) (w : World) (hLs : RdL w (Now w) l (.slice la l.length c)) (hl : l.length ≤ 1759218604441) :
    Calls Tryd.prog 40 #[.slice la l.length c] w fun e w' => e = .returned (.bool (vast l)) ∧ Below w.heap.size w w' := by
  have hd : Hid (vast l = decide (5000 ≤ nodesL l)) := rfl
  generalize vast l = R at *
  go_enter Tryd.func40, Tryd.ntmps40
  go_wp2_with fail
  go_loopg [3, 4] l.length (fun g m i wr => ∃ j X : Nat, g + j = l.length ∧ i = .int .i64 j ∧ m = .int .i64 X ∧ X + nodesL (l.take j) = 5000 ∧ 0 < X ∧ Below w.heap.size w wr)
  case atStart => exact ⟨0, 5000, by omega, rfl, rfl, by simp [nodesL], by omega, Below.refl _ _⟩
  case round =>
    obtain ⟨j, X, hj, rfl, rfl, hX, hx0, hbr⟩ := hrel
    have hpr := hLs.later hbr
    by_cases hlt : j < l.length
    · obtain ⟨x, hx⟩ : ∃ x, l[j]? = some x := ⟨_, List.getElem?_eq_getElem hlt⟩
      obtain ⟨b, off, xs, rfl, hxS, hxc, hxr⟩ := hpr.at_ hx
      have hcx := hid (walked_calls x X)
      have hsx := nodesL_succ hx
      have htl := nodesL_take_le l (j + 1)
      have has := hid (fun h => after_some (V := x) (L := X) h)
      have haz := hid (fun h => after_none (V := x) (L := X) h)
      generalize after x X = A at *
      generalize x.nodes = xN at *
      obtain ⟨xk, xn, xsx, xl, xfn, xfv⟩ := x
      obtain ⟨xla, xlc, xfa, xfc, rfl, _⟩ := hxr.inv
      obtain ⟨d0, d1, d2, d3, d4⟩ := five hxc
      clear hxc
      go_wp2_with fail
      refine (hcx.out _ _ hxr (by omega) (by omega)).mono ?_
      rintro e w2 ⟨rfl, hb2⟩
      by_cases hlt2 : xN < X
      · have ha := has.out hlt2
        subst ha
        go_wp2_with fail
        go_roundg (l.length - (j + 1))
        case measure => omega
        case rel => exact ⟨j + 1, X - xN, by omega, by go_num, by simp, by omega, by omega, hbr.step hb2⟩
      · have ha := haz.out hlt2
        subst ha
        have hR : Hid (R = true) := by show _ = _; rw [hd.out]; simp; omega
        go_wp2_with fail
        go_ret
        exact ⟨by rw [hR.out]; rfl, hbr.step hb2⟩
    · obtain rfl : j = l.length := by omega
      rw [List.take_length] at hX
      have hR : Hid (R = false) := by show _ = _; rw [hd.out]; simp; omega
      go_wp2_with fail
      go_ret
      exact ⟨by rw [hR.out]; rfl, hbr⟩
end Go.Proofs.YtdjegpmjhfbamaaDoor
