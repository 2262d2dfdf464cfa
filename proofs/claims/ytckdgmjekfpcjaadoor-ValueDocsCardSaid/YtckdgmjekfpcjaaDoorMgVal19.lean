/-
  Walks: the reference's walked, Vast.
  Walks: the reference's Same; same.
-/
import Derived.Test.YtckdgmjekfpcjaaDoorMgVal8
import Derived.Test.YtckdgmjekfpcjaaDoorMgHel
import Derived.Deep.RegionWith
import Derived.Outline
import Derived.Test.YtckdgmjekfpcjaaDoorMgPlain
namespace Go.Proofs.YtckdgmjekfpcjaaDoor
open Go.RowKit Go.Proofs

/-- How much is left behind a value: none: it is too vast. -/
def after (V : PVal) (L : Nat) : Option Nat := if V.nodes < L then some (L - V.nodes) else none
theorem after_some {V : PVal} {L : Nat} (h : V.nodes < L) : after V L = some (L - V.nodes) := by rw [after, if_pos h]
theorem after_none {V : PVal} {L : Nat} (h : ¬ V.nodes < L) : after V L = none := by rw [after, if_neg h]

set_option maxRecDepth 100000 in
set_option maxHeartbeats 4000000 in
theorem walked_calls : ∀ (V : PVal) (L : Nat) (w : World) (cs : List Value), Rd w (Now w) V cs → 1 ≤ L → L ≤ 5000 →
    Calls Tryd.prog 25 #[.agg cs.toArray, .int .i64 L] w fun e w' => e = .returned (.tuple #[.int .i64 ((after V L).getD 0 : Nat), .bool (after V L).isSome]) ∧ Below w.heap.size w w' := by
  intro V
  induction hN : V.nodes using Nat.strongRecOn generalizing V with
  | _ N ih =>
  subst hN
  intro L w cs hV h1 hL5
  have hnode : Hid (V.nodes = V.nodes) := rfl
  have hS := hid (fun h => after_some (V := V) (L := L) h)
  have hZ := hid (fun h => after_none (V := V) (L := L) h)
  generalize after V L = R at *
  have hnn : V.nodes = 1 + nodesL V.l + nodesL V.fv := by cases V; simp [PVal.nodes, PVal.l, PVal.fv]; try omega
  generalize hM : V.nodes = M at *
  clear hM hnode
  obtain ⟨k, n, s, l, fn, fv⟩ := V
  simp only [PVal.l, PVal.fv] at hnn
  obtain ⟨la, lc, fa, fc, rfl, hk, hn, hsz, hlc, hlm, hfc, hfm, hLs, hF⟩ := hV.inv
  have hlen := hid hF.1
  go_enter Tryd.func25, Tryd.ntmps25
  go_wp2_with fail
  go_loopg [1, 6] l.length (fun g m i wr => ∃ j X : Nat, g + j = l.length ∧ i = .int .i64 j ∧ m = .int .i64 X ∧ X + 1 + nodesL (l.take j) = L ∧ Below (w.alloc (.cells #[.int .i64 k, .int .i64 n, .string s, .slice la l.length lc, .slice fa fv.length fc] 27)).heap.size (w.alloc (.cells #[.int .i64 k, .int .i64 n, .string s, .slice la l.length lc, .slice fa fv.length fc] 27)) wr)
  case atStart => exact ⟨0, L - 1, by omega, rfl, by go_num, by simp [nodesL]; omega, Below.refl _ _⟩
  case round =>
    obtain ⟨j, X, hj, rfl, rfl, hX, hbr⟩ := hrel
    have hbw := (below_new w _).step hbr
    have c3 := box_cell (j := 3) hbr rfl
    have c4 := box_cell (j := 4) hbr rfl
    have hpr := hLs.later hbw
    have hfr := hid (hF.later hbw)
    by_cases hx0 : j < l.length ∧ 0 < X
    · obtain ⟨hlt, hx0⟩ := hx0
      obtain ⟨x, hx⟩ : ∃ x, l[j]? = some x := ⟨_, List.getElem?_eq_getElem hlt⟩
      obtain ⟨b, off, xs, rfl, hxS, hxc, hxr⟩ := hpr.at_ hx
      have hxn := nodes_mem (List.mem_of_getElem? hx)
      have hcx := hid (ih x.nodes (by omega) x rfl X)
      have hsx := nodesL_succ hx
      have htl := nodesL_take_le l (j + 1)
      have has := hid (fun h => after_some (V := x) (L := X) h)
      have haz := hid (fun h => after_none (V := x) (L := X) h)
      generalize after x X = A at *
      generalize x.nodes = xN at *
      obtain ⟨xk, xn, xsx, xl, xfn, xfv⟩ := x
      obtain ⟨xla, xlc, xfa, xfc, rfl, _⟩ := hxr.inv
      obtain ⟨d0, d1, d2, d3, d4⟩ := five hxc
      clear hxc
      go_wp2_with fail
      refine (hcx.out _ _ hxr (by omega) (by omega)).mono ?_
      rintro e w2 ⟨rfl, hb2⟩
      by_cases hlt2 : xN < X
      · have ha := has.out hlt2
        subst ha
        go_wp2_with fail
        go_roundg (l.length - (j + 1))
        case measure => omega
        case rel => exact ⟨j + 1, X - xN, by omega, by go_num, by simp, by omega, hbr.step hb2⟩
      · have ha := haz.out hlt2
        subst ha
        have hR : Hid (R = none) := hZ.out (by omega)
        go_wp2_with fail
        go_ret2
        exact ⟨by rw [hR.out]; rfl, hbw.step hb2⟩
    by_cases hj1 : j < l.length
    · obtain rfl : X = 0 := by omega
      have htl := nodesL_take_le l j
      have hR : Hid (R = none) := hZ.out (by omega)
      go_wp2_with fail
      go_rounds 1
      all_goals go_ret2
      all_goals exact ⟨by rw [hR.out]; rfl, hbw⟩
    · obtain rfl : j = l.length := by omega
      obtain ⟨wo, hwo⟩ : ∃ wo, wo = wr := ⟨_, rfl⟩
      rw [List.take_length] at hX
      go_wp2_with fail
      subst hwo
      go_loopg [1, 9] fv.length (fun g m i wr => ∃ j Y : Nat, g + j = fv.length ∧ i = .int .i64 j ∧ m = .int .i64 Y ∧ Y + 1 + nodesL l + nodesL (fv.take j) = L ∧ Below (w.alloc (.cells #[.int .i64 k, .int .i64 n, .string s, .slice la l.length lc, .slice fa fv.length fc] 27)).heap.size (w.alloc (.cells #[.int .i64 k, .int .i64 n, .string s, .slice la l.length lc, .slice fa fv.length fc] 27)) wr)
      case atStart => exact ⟨0, X, by omega, rfl, rfl, by simp [nodesL]; omega, hbr⟩
      case round =>
        obtain ⟨j, Y, hj, rfl, rfl, hY, hbr⟩ := hrel
        have hbw := (below_new w _).step hbr
        have c3 := box_cell (j := 3) hbr rfl
        have c4 := box_cell (j := 4) hbr rfl
        have hpr := hF.later hbw
        by_cases hx0 : j < fv.length ∧ 0 < Y
        · obtain ⟨hlt, hx0⟩ := hx0
          obtain ⟨x, hx⟩ : ∃ x, fv[j]? = some x := ⟨_, List.getElem?_eq_getElem hlt⟩
          obtain ⟨nm, hnm⟩ : ∃ nm, fn[j]? = some nm := ⟨_, List.getElem?_eq_getElem (by rw [hlen.out]; exact hlt)⟩
          obtain ⟨b, off, xs, rfl, hxS, hxc, hxr, hnz⟩ := hpr.at_ hnm hx
          have hxn := nodes_mem (List.mem_of_getElem? hx)
          have hcx := hid (ih x.nodes (by omega) x rfl Y)
          have hsx := nodesL_succ hx
          have htl := nodesL_take_le fv (j + 1)
          have has := hid (fun h => after_some (V := x) (L := Y) h)
          have haz := hid (fun h => after_none (V := x) (L := Y) h)
          generalize after x Y = A at *
          generalize x.nodes = xN at *
          obtain ⟨xk, xn, xsx, xl, xfn, xfv⟩ := x
          obtain ⟨xla, xlc, xfa, xfc, rfl, _⟩ := hxr.inv
          obtain ⟨d0, d1, d2, d3, d4, d5⟩ := six hxc
          clear hxc
          go_wp2_with fail
          refine (hcx.out _ _ hxr (by omega) (by omega)).mono ?_
          rintro e w2 ⟨rfl, hb2⟩
          by_cases hlt2 : xN < Y
          · have ha := has.out hlt2
            subst ha
            go_wp2_with fail
            go_roundg (fv.length - (j + 1))
            case measure => omega
            case rel => exact ⟨j + 1, Y - xN, by omega, by go_num, by simp, by omega, hbr.step hb2⟩
          · have ha := haz.out hlt2
            subst ha
            have hR : Hid (R = none) := hZ.out (by omega)
            go_wp2_with fail
            go_ret2
            exact ⟨by rw [hR.out]; rfl, hbw.step hb2⟩
        · by_cases hj1 : j < fv.length
          · obtain rfl : Y = 0 := by omega
            have htl := nodesL_take_le fv j
            have hR : Hid (R = none) := hZ.out (by omega)
            go_wp2_with fail
            go_ret2
            exact ⟨by rw [hR.out]; rfl, hbw⟩
          · obtain rfl : j = fv.length := by omega
            rw [List.take_length] at hY
            by_cases hY0 : 0 < Y
            · have hR : Hid (R = some Y) := by show _ = _; rw [hS.out (by omega)]; congr 1; omega
              go_wp2_with fail
              go_ret2
              exact ⟨by rw [hR.out]; rfl, hbw⟩
            · obtain rfl : Y = 0 := by omega
              have hR : Hid (R = none) := hZ.out (by omega)
              go_wp2_with fail
              go_ret2
              exact ⟨by rw [hR.out]; rfl, hbw⟩

def vast : List PVal → Bool
  | l => decide (5000 ≤ nodesL l)
set_option maxRecDepth 100000 in
theorem vast_calls (l : List PVal) (la : Option Addr) (c : Nat) (w : World) (hLs : RdL w (Now w) l (.slice la l.length c)) (hl : l.length ≤ 1759218604441) :
    Calls Tryd.prog 14 #[.slice la l.length c] w fun e w' => e = .returned (.bool (vast l)) ∧ Below w.heap.size w w' := by
  have hd : Hid (vast l = decide (5000 ≤ nodesL l)) := rfl
  generalize vast l = R at *
  go_enter Tryd.func14, Tryd.ntmps14
  go_wp2_with fail
  go_loopg [3, 4] l.length (fun g m i wr => ∃ j X : Nat, g + j = l.length ∧ i = .int .i64 j ∧ m = .int .i64 X ∧ X + nodesL (l.take j) = 5000 ∧ 0 < X ∧ Below w.heap.size w wr)
  case atStart => exact ⟨0, 5000, by omega, rfl, rfl, by simp [nodesL], by omega, Below.refl _ _⟩
  case round =>
    obtain ⟨j, X, hj, rfl, rfl, hX, hx0, hbr⟩ := hrel
    have hpr := hLs.later hbr
    by_cases hlt : j < l.length
    · obtain ⟨x, hx⟩ : ∃ x, l[j]? = some x := ⟨_, List.getElem?_eq_getElem hlt⟩
      obtain ⟨b, off, xs, rfl, hxS, hxc, hxr⟩ := hpr.at_ hx
      have hcx := hid (walked_calls x X)
      have hsx := nodesL_succ hx
      have htl := nodesL_take_le l (j + 1)
      have has := hid (fun h => after_some (V := x) (L := X) h)
      have haz := hid (fun h => after_none (V := x) (L := X) h)
      generalize after x X = A at *
      generalize x.nodes = xN at *
      obtain ⟨xk, xn, xsx, xl, xfn, xfv⟩ := x
      obtain ⟨xla, xlc, xfa, xfc, rfl, _⟩ := hxr.inv
      obtain ⟨d0, d1, d2, d3, d4⟩ := five hxc
      clear hxc
      go_wp2_with fail
      refine (hcx.out _ _ hxr (by omega) (by omega)).mono ?_
      rintro e w2 ⟨rfl, hb2⟩
      by_cases hlt2 : xN < X
      · have ha := has.out hlt2
        subst ha
        go_wp2_with fail
        go_roundg (l.length - (j + 1))
        case measure => omega
        case rel => exact ⟨j + 1, X - xN, by omega, by go_num, by simp, by omega, by omega, hbr.step hb2⟩
      · have ha := haz.out hlt2
        subst ha
        have hR : Hid (R = true) := by show _ = _; rw [hd.out]; simp; omega
        go_wp2_with fail
        go_ret
        exact ⟨by rw [hR.out]; rfl, hbr.step hb2⟩
    · obtain rfl : j = l.length := by omega
      rw [List.take_length] at hX
      have hR : Hid (R = false) := by show _ = _; rw [hd.out]; simp; omega
      go_wp2_with fail
      go_ret
      exact ⟨by rw [hR.out]; rfl, hbr⟩
end Go.Proofs.YtckdgmjekfpcjaaDoor

namespace Go.Proofs.YtckdgmjekfpcjaaDoor
open Go.RowKit Go.Proofs

theorem take_eq_succ {α : Type} {l l' : List α} {j : Nat} {x y : α} (h : l.take j = l'.take j) (hx : l[j]? = some x) (hy : l'[j]? = some y) (e : x = y) : l.take (j + 1) = l'.take (j + 1) := by
  rw [take_succ_of hx, take_succ_of hy, h, e]

theorem bool_false {R : Bool} (h : R = true → False) : R = false := by
  cases R with
  | false => rfl
  | true => exact (h rfl).elim
set_option maxRecDepth 100000 in
set_option maxHeartbeats 4000000 in
theorem same_calls : ∀ (V V' : PVal) (R : Bool), (R = true ↔ V = V') → ∀ (w : World) (cs cs' : List Value), Rd w (Now w) V cs → Rd w (Now w) V' cs' →
    Calls Tryd.prog 21 #[.agg cs.toArray, .agg cs'.toArray] w fun e w' => e = .returned (.bool R) ∧ Below w.heap.size w w' := by
  intro V
  induction hN : V.nodes using Nat.strongRecOn generalizing V with
  | _ N ih =>
  subst hN
  intro V' R hR w cs cs' hV hV'
  have hV0 := hid hV
  have hV0' := hid hV'
  obtain ⟨k, n, s, l, fn, fv⟩ := V
  obtain ⟨k', n', s', l', fn', fv'⟩ := V'
  obtain ⟨la, lc, fa, fc, rfl, hk, hn, hs, hlc, hlm, hfc, hfm, hL, hF⟩ := hV.inv
  obtain ⟨la', lc', fa', fc', rfl, hk', hn', hs', hlc', hlm', hfc', hfm', hL', hF'⟩ := hV'.inv
  clear hV hV'
  rw [PVal.mk.injEq] at hR
  have hfl := hid hF.1
  have hfl' := hid hF'.1
  replace hR := hid hR
  have hB0 := hid ((below_new w (.cells #[.int .i64 k, .int .i64 n, .string s, .slice la l.length lc, .slice fa fv.length fc] 27)).step (below_new (w.alloc (.cells #[.int .i64 k, .int .i64 n, .string s, .slice la l.length lc, .slice fa fv.length fc] 27)) (.cells #[.int .i64 k', .int .i64 n', .string s', .slice la' l'.length lc', .slice fa' fv'.length fc'] 27)))
  by_cases h1 : k = k'
  case neg =>
    have b1 : (k != k') = true := by simpa using h1
    replace hR : Hid (R = false) := by
      show _ = _
      cases R with
      | false => rfl
      | true => exact absurd (hR.out.1 rfl).1 h1
    go_enter Tryd.func21, Tryd.ntmps21
    go_wp2_with fail
    go_ret
    exact ⟨by rw [hR.out]; rfl, hB0.out⟩
  subst h1
  by_cases h2 : n = n'
  case neg =>
    have b1 : (n != n') = true := by simpa using h2
    replace hR : Hid (R = false) := by
      show _ = _
      cases R with
      | false => rfl
      | true => exact absurd (hR.out.1 rfl).2.1 h2
    go_enter Tryd.func21, Tryd.ntmps21
    go_wp2_with fail
    go_ret
    exact ⟨by rw [hR.out]; rfl, hB0.out⟩
  subst h2
  by_cases h3 : s = s'
  case neg =>
    have b1 := str_ne h3
    replace hR : Hid (R = false) := by
      show _ = _
      cases R with
      | false => rfl
      | true => exact absurd (hR.out.1 rfl).2.2.1 h3
    go_enter Tryd.func21, Tryd.ntmps21
    go_wp2_with fail
    go_ret
    exact ⟨by rw [hR.out]; rfl, hB0.out⟩
  subst h3
  by_cases h4 : l.length = l'.length
  case neg =>
    have b1 : ((l.length : Int) != (l'.length : Int)) = true := by simp; omega
    replace hR : Hid (R = false) := bool_false (fun h => h4 (congrArg List.length (hR.out.1 h).2.2.2.1))
    go_enter Tryd.func21, Tryd.ntmps21
    go_wp2_with fail
    go_ret
    exact ⟨by rw [hR.out]; rfl, hB0.out⟩
  generalize hq : l'.length = q at *
  subst h4
  replace hq := hid hq
  by_cases h5 : fv.length = fv'.length
  case neg =>
    have b1 : ((fv.length : Int) != (fv'.length : Int)) = true := by simp; omega
    replace hR : Hid (R = false) := bool_false (fun h => h5 (congrArg List.length (hR.out.1 h).2.2.2.2.2))
    go_enter Tryd.func21, Tryd.ntmps21
    go_wp2_with fail
    go_ret
    exact ⟨by rw [hR.out]; rfl, hB0.out⟩
  generalize hp : fv'.length = p at *
  subst h5
  replace hp := hid hp
  go_enter Tryd.func21, Tryd.ntmps21
  go_wp2_with fail
  go_loopg [5] l.length (fun g i wr => ∃ j : Nat, g + j = l.length ∧ i = .int .i64 j ∧ l.take j = l'.take j ∧ Below ((w.alloc (.cells #[.int .i64 k, .int .i64 n, .string s, .slice la l.length lc, .slice fa fv.length fc] 27)).alloc (.cells #[.int .i64 k, .int .i64 n, .string s, .slice la' l.length lc', .slice fa' fv.length fc'] 27)).heap.size ((w.alloc (.cells #[.int .i64 k, .int .i64 n, .string s, .slice la l.length lc, .slice fa fv.length fc] 27)).alloc (.cells #[.int .i64 k, .int .i64 n, .string s, .slice la' l.length lc', .slice fa' fv.length fc'] 27)) wr)
  case atStart => exact ⟨0, by omega, rfl, by simp, Below.refl _ _⟩
  case round =>
    obtain ⟨j, hj, rfl, htk, hbr⟩ := hrel
    have htk := hid htk
    have hbw := hid (hB0.out.step hbr)
    obtain ⟨kA, kB⟩ := two_cells hbr
    have A3 := kA 3 _ rfl
    have B3 := kB 3 _ rfl
    have A4 := kA 4 _ rfl
    have B4 := kB 4 _ rfl
    have hpr := hL.later hbw.out
    have hpr' := hL'.later hbw.out
    have kA := hid kA
    have kB := hid kB
    by_cases hlt : j < l.length
    · obtain ⟨x, hx⟩ : ∃ x, l[j]? = some x := ⟨_, List.getElem?_eq_getElem hlt⟩
      obtain ⟨y, hy⟩ : ∃ y, l'[j]? = some y := ⟨_, List.getElem?_eq_getElem (by rw [hq.out]; exact hlt)⟩
      obtain ⟨b, off, xs, rfl, hxS, hxc, hxr⟩ := hpr.at_ hx
      obtain ⟨b', off', ys, rfl, hyS, hyc, hyr⟩ := hpr'.at_ hy
      have hxn := nodes_mem (List.mem_of_getElem? hx)
      obtain ⟨T, hT⟩ : ∃ T : Bool, (T = true ↔ x = y) := by
        by_cases e : x = y
        · exact ⟨true, by simp [e]⟩
        · exact ⟨false, by simp [e]⟩
      have hcx := hid (fun (p : Later wr) => ih x.nodes (by simp only [PVal.nodes]; omega) x rfl y T hT p.x _ _ (hxr.later p.h) (hyr.later p.h))
      replace hT := hid hT
      have hx := hid hx
      have hy := hid hy
      obtain ⟨xk, xn, xsx, xl, xfn, xfv⟩ := x
      obtain ⟨xla, xlc, xfa, xfc, rfl, _⟩ := hxr.inv
      obtain ⟨yk, yn, ysx, yl, yfn, yfv⟩ := y
      obtain ⟨yla, ylc, yfa, yfc, rfl, _⟩ := hyr.inv
      obtain ⟨c0, c1, c2, c3, c4⟩ := five hxc
      obtain ⟨d0, d1, d2, d3, d4⟩ := five hyc
      replace A3 := Later.cell A3
      replace B3 := Later.cell B3
      replace c0 := Later.cell c0
      replace c1 := Later.cell c1
      replace c2 := Later.cell c2
      replace c3 := Later.cell c3
      replace c4 := Later.cell c4
      replace d0 := Later.cell d0
      replace d1 := Later.cell d1
      replace d2 := Later.cell d2
      replace d3 := Later.cell d3
      replace d4 := Later.cell d4
      clear hxc hyc A4 B4
      go_wp2_with fail
      refine wp_later (by kernel_rfl) (by kernel_rfl) ?_
      repeat (go_big_quiet_step ((go_at_call 21; exact later_calls _ (hcx.out _))))
      refine wpQuiet_nil ?_
      intro _ hw'
      obtain ⟨p, hp⟩ := hw'
      subst hp
      clear A3 B3 c0 c1 c2 c3 c4 d0 d1 d2 d3 d4
      cases T with
      | false =>
        have hRf : Hid (R = false) := bool_false (fun h => by
          have e := (hR.out.1 h).2.2.2.1
          have := hT.out.2 (by have h1 := hx.out; rw [e, hy.out] at h1; exact (Option.some.inj h1).symm)
          exact Bool.false_ne_true this)
        go_wp2_with fail
        go_ret
        exact ⟨by rw [hRf.out]; rfl, hbw.out.step p.h⟩
      | true =>
        have hxy := hid (hT.out.1 rfl)
        go_wp2_with fail
        go_roundg (l.length - (j + 1))
        case measure => omega
        case rel => exact ⟨j + 1, by omega, by go_num, take_eq_succ htk.out hx.out hy.out hxy.out, hbr.step p.h⟩
    · obtain rfl : j = l.length := by omega
      have hll : Hid (l = l') := by
        have h := htk.out
        rw [List.take_length, ← hq.out, List.take_length] at h
        exact h
      obtain ⟨wo, hwo⟩ : ∃ wo, wo = wr := ⟨_, rfl⟩
      have hbr0 := hid hbr
      go_wp2_with fail
      subst hwo
      clear A3 A4 B3 B4 kA kB
      go_loopg [6] fv.length (fun g i wr => ∃ j : Nat, g + j = fv.length ∧ i = .int .i64 j ∧ fn.take j = fn'.take j ∧ fv.take j = fv'.take j ∧ Below ((w.alloc (.cells #[.int .i64 k, .int .i64 n, .string s, .slice la l.length lc, .slice fa fv.length fc] 27)).alloc (.cells #[.int .i64 k, .int .i64 n, .string s, .slice la' l.length lc', .slice fa' fv.length fc'] 27)).heap.size ((w.alloc (.cells #[.int .i64 k, .int .i64 n, .string s, .slice la l.length lc, .slice fa fv.length fc] 27)).alloc (.cells #[.int .i64 k, .int .i64 n, .string s, .slice la' l.length lc', .slice fa' fv.length fc'] 27)) wr)
      case atStart => exact ⟨0, by omega, rfl, by simp, by simp, hbr0.out⟩
      case round =>
        obtain ⟨j, hj, rfl, htn, htk, hbr⟩ := hrel
        have htk := hid htk
        have htn := hid htn
        have hbw := hid (hB0.out.step hbr)
        obtain ⟨kA, kB⟩ := two_cells hbr
        have A4 := kA 4 _ rfl
        have B4 := kB 4 _ rfl
        have hpr := hF.later hbw.out
        have hpr' := hF'.later hbw.out
        clear kA kB
        by_cases hlt : j < fv.length
        · obtain ⟨x, hx⟩ : ∃ x, fv[j]? = some x := ⟨_, List.getElem?_eq_getElem hlt⟩
          obtain ⟨y, hy⟩ : ∃ y, fv'[j]? = some y := ⟨_, List.getElem?_eq_getElem (by rw [hp.out]; exact hlt)⟩
          obtain ⟨nx, hnx⟩ : ∃ nx, fn[j]? = some nx := ⟨_, List.getElem?_eq_getElem (by rw [hfl.out]; exact hlt)⟩
          obtain ⟨ny, hny⟩ : ∃ ny, fn'[j]? = some ny := ⟨_, List.getElem?_eq_getElem (by rw [hfl'.out]; first | exact hlt | (rw [hp.out]; exact hlt))⟩
          obtain ⟨b, off, xs, rfl, hxS, hxc, hxr, _⟩ := hpr.at_ hnx hx
          obtain ⟨b', off', ys, rfl, hyS, hyc, hyr, _⟩ := hpr'.at_ hny hy
          have hxn := nodes_mem (List.mem_of_getElem? hx)
          obtain ⟨T, hT⟩ : ∃ T : Bool, (T = true ↔ x = y) := by
            by_cases e : x = y
            · exact ⟨true, by simp [e]⟩
            · exact ⟨false, by simp [e]⟩
          have hcx := hid (fun (p : Later wr) => ih x.nodes (by simp only [PVal.nodes]; omega) x rfl y T hT p.x _ _ (hxr.later p.h) (hyr.later p.h))
          replace hT := hid hT
          have hx := hid hx
          have hy := hid hy
          have hnx := hid hnx
          have hny := hid hny
          obtain ⟨xk, xn, xsx, xl, xfn, xfv⟩ := x
          obtain ⟨xla, xlc, xfa, xfc, rfl, _⟩ := hxr.inv
          obtain ⟨yk, yn, ysx, yl, yfn, yfv⟩ := y
          obtain ⟨yla, ylc, yfa, yfc, rfl, _⟩ := hyr.inv
          obtain ⟨c0, c1, c2, c3, c4, c5⟩ := six hxc
          obtain ⟨d0, d1, d2, d3, d4, d5⟩ := six hyc
          have A4l := Later.cell A4
          have B4l := Later.cell B4
          replace c0 := Later.cell c0
          replace c1 := Later.cell c1
          replace c2 := Later.cell c2
          replace c3 := Later.cell c3
          replace c4 := Later.cell c4
          replace c5 := Later.cell c5
          replace d0 := Later.cell d0
          replace d1 := Later.cell d1
          replace d2 := Later.cell d2
          replace d3 := Later.cell d3
          replace d4 := Later.cell d4
          replace d5 := Later.cell d5
          clear hxc hyc
          by_cases hne : nx = ny
          · subst hne
            go_wp2_with fail
            refine wp_later (by kernel_rfl) (by kernel_rfl) ?_
            repeat (go_big_quiet_step ((go_at_call 21; exact later_calls _ (hcx.out _))))
            refine wpQuiet_nil ?_
            intro _ hw'
            obtain ⟨p, hp⟩ := hw'
            subst hp
            clear A4 B4 A4l B4l c0 c1 c2 c3 c4 c5 d0 d1 d2 d3 d4 d5
            cases T with
            | false =>
              have hRf : Hid (R = false) := bool_false (fun h => by
                have e := (hR.out.1 h).2.2.2.2.2
                have := hT.out.2 (by have h1 := hx.out; rw [e, hy.out] at h1; exact (Option.some.inj h1).symm)
                exact Bool.false_ne_true this)
              go_wp2_with fail
              go_ret
              exact ⟨by rw [hRf.out]; rfl, hbw.out.step p.h⟩
            | true =>
              have hxy := hid (hT.out.1 rfl)
              go_wp2_with fail
              go_roundg (fv.length - (j + 1))
              case measure => omega
              case rel => exact ⟨j + 1, by omega, by go_num, take_eq_succ htn.out hnx.out hny.out rfl, take_eq_succ htk.out hx.out hy.out hxy.out, hbr.step p.h⟩
          · have hnb := str_ne hne
            have hRf : Hid (R = false) := bool_false (fun h => by
              have e := (hR.out.1 h).2.2.2.2.1
              have h1 := hnx.out
              rw [e, hny.out] at h1
              exact hne (Option.some.inj h1).symm)
            go_wp2_with fail
            refine wp_later (by kernel_rfl) (by kernel_rfl) ?_
            repeat (go_big_quiet_step ((go_at_call 21; exact later_calls _ (hcx.out _))))
            refine wpQuiet_nil ?_
            intro _ hw'
            obtain ⟨p, hp⟩ := hw'
            subst hp
            clear A4 B4 A4l B4l c0 c1 c2 c3 c4 c5 d0 d1 d2 d3 d4 d5
            go_wp2_with fail
            go_ret
            exact ⟨by rw [hRf.out]; rfl, hbw.out.step p.h⟩
        · obtain rfl : j = fv.length := by omega
          have hRt : Hid (R = true) := hR.out.2 ⟨by first | rfl | trivial, by first | rfl | trivial, by first | rfl | trivial, hll.out, by
            have h := htn.out
            rw [← hfl.out, List.take_length, hfl.out] at h
            have e : fv.length = fn'.length := by first | exact hfl'.out.symm | (rw [hfl'.out, hp.out])
            rw [e, List.take_length] at h
            exact h, by
            have h := htk.out
            rw [List.take_length, ← hp.out, List.take_length] at h
            exact h⟩
          go_wp2_with fail
          go_ret
          exact ⟨by rw [hRt.out]; rfl, hbw.out⟩

set_option maxRecDepth 100000 in
theorem same2_calls (V V' : PVal) (R : Bool) (hR : R = true ↔ V = V') (w : World) (cs cs' : List Value) (hV : Rd w (Now w) V cs) (hV' : Rd w (Now w) V' cs') :
    Calls Tryd.prog 10 #[.agg cs.toArray, .agg cs'.toArray] w fun e w' => e = .returned (.bool R) ∧ Below w.heap.size w w' := by
  have hs := hid (same_calls V V' R hR)
  have hV0 := hid hV
  have hV0' := hid hV'
  clear hR
  obtain ⟨k, n, s, l, fn, fv⟩ := V
  obtain ⟨k', n', s', l', fn', fv'⟩ := V'
  obtain ⟨la, lc, fa, fc, rfl, _⟩ := hV.inv
  obtain ⟨la', lc', fa', fc', rfl, _⟩ := hV'.inv
  clear hV hV'
  have hB0 := hid ((below_new w (.cells #[.int .i64 k, .int .i64 n, .string s, .slice la l.length lc, .slice fa fv.length fc] 27)).step (below_new (w.alloc (.cells #[.int .i64 k, .int .i64 n, .string s, .slice la l.length lc, .slice fa fv.length fc] 27)) (.cells #[.int .i64 k', .int .i64 n', .string s', .slice la' l'.length lc', .slice fa' fv'.length fc'] 27)))
  go_enter Tryd.func10, Tryd.ntmps10
  go_wp2_with fail
  refine (hs.out _ _ _ (hV0.out.later hB0.out) (hV0'.out.later hB0.out)).mono ?_
  rintro e w1 ⟨rfl, h1⟩
  go_wp2_with fail
  go_ret
  exact ⟨rfl, hB0.out.step h1⟩
end Go.Proofs.YtckdgmjekfpcjaaDoor
