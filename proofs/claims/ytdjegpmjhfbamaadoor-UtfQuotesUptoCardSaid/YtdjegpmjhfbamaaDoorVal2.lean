/-
  Walks: value.all at whatever function that tells one thing of a value; slices.ContainsFunc and IndexFunc at fields; formed, spelled, few.
-/
import Derived.Test.YtdjegpmjhfbamaaDoorVal1
namespace Go.Proofs.YtdjegpmjhfbamaaDoor
open Go.RowKit Go.Proofs

/-- A function value that tells p of each value, in every world of which E holds. -/
def TellsB (E : World → Prop) (g : FuncId) (p : PVal → Bool) : Prop :=
  ∀ (V : PVal) (w : World) (cs : List Value), E w → Rd w (Now w) V cs → Calls Tryd.prog g #[.agg cs.toArray] w fun e w' => e = .returned (.bool (p V)) ∧ Below w.heap.size w w'
/-- What stays behind whatever turns nothing. -/
def Stays (E : World → Prop) : Prop := ∀ w w', E w → Below w.heap.size w w' → E w'

theorem all_calls {E : World → Prop} (hE : Stays E) (g : FuncId) (p : PVal → Bool) (hg : TellsB E g p) (hgo : ∀ (args : Array Value) (w : World), (callFunc g args).run Tryd.prog w = .ok (.enter g args) w) :
    ∀ (V : PVal) (w : World) (cs : List Value), E w → V.nodes ≤ 1000000000000 → Rd w (Now w) V cs →
    Calls Tryd.prog 77 #[.agg cs.toArray, .func (.func g) #[] #[]] w fun e w' => e = .returned (.bool (V.all p)) ∧ Below w.heap.size w w' := by
  intro V
  induction hN : V.nodes using Nat.strongRecOn generalizing V with
  | _ N ih =>
  subst hN
  intro w cs hEw hN hV
  have hd := hid (all_parts p V)
  have hpn := nodes_parts V
  have hp := hid (fun w cs h => parts_calls V w cs h)
  have hgV := hid (fun w cs h => hg V w cs h)
  generalize V.parts = ps at *
  have hpl := nodesL_length ps
  generalize hpv : p V = pv at *
  clear hpv
  generalize V.all p = av at *
  obtain ⟨k, n, s, l, fn, fv⟩ := V
  obtain ⟨la, lc, fa, fc, rfl, hk, hn, hs, hlc, hlm, hfc, hfm, hL, hF⟩ := hV.inv
  go_enter Tryd.func77, Tryd.ntmps77
  cases pv with
  | false =>
    have he : Hid (av = false) := by rw [hd.out]; rfl
    go_wp2_with fail
    refine (hgV.out _ _ (hE _ _ hEw (below_new _ _)) (hV.later (below_new _ _))).mono ?_
    rintro e w1 ⟨rfl, hb1⟩
    go_wp2_with fail
    go_ret
    exact ⟨by rw [he.out]; rfl, (below_new w _).step hb1⟩
  | true =>
    go_wp2_with fail
    refine (hgV.out _ _ (hE _ _ hEw (below_new _ _)) (hV.later (below_new _ _))).mono ?_
    rintro e w1 ⟨rfl, hb1⟩
    have hb0 : Below w.heap.size w w1 := (below_new w _).step hb1
    have hV1 := hV.later hb0
    have e0 := box_cell (j := 0) hb1 rfl
    have e1 := box_cell (j := 1) hb1 rfl
    have e2 := box_cell (j := 2) hb1 rfl
    have e3 := box_cell (j := 3) hb1 rfl
    have e4 := box_cell (j := 4) hb1 rfl
    go_wp2_with fail
    refine (hp.out _ _ hV1).mono ?_
    rintro e w2 ⟨pa, pc, rfl, hps, hb2⟩
    clear e0 e1 e2 e3 e4
    have hbb := hb0.step hb2
    go_wp2_with fail
    go_loopg [14] ps.length (fun g i wr => ∃ j : Nat, g + j = ps.length ∧ i = .int .i64 j ∧ (ps.take j).all (·.all p) = true ∧ Below w2.heap.size w2 wr)
    case atStart => exact ⟨0, by omega, rfl, by simp, Below.refl _ _⟩
    case round =>
      obtain ⟨j, hj, rfl, hall, hbr⟩ := hrel
      have hall := hid hall
      have hpr := hps.later hbr
      by_cases hlt : j < ps.length
      · obtain ⟨x, hx⟩ : ∃ x, ps[j]? = some x := ⟨_, List.getElem?_eq_getElem hlt⟩
        obtain ⟨b, off, xs, rfl, hxS, hxc, hxr⟩ := hpr.at_ hx
        have hxn := nodes_mem (List.mem_of_getElem? hx)
        have hcx := ih x.nodes (by omega) x rfl
        have hsx : Hid ((ps.take (j + 1)).all (·.all p) = x.all p) := by show _ = _; rw [take_succ_of hx, List.all_append, hall.out]; simp
        have hall2 : Hid (x.all p = false → av = false) := fun h => by
          rw [hd.out, Bool.true_and, List.all_eq_false]
          exact ⟨x, List.mem_of_getElem? hx, by simp [h]⟩
        generalize x.all p = ax at *
        obtain ⟨xk, xn, xsx, xl, xfn, xfv⟩ := x
        obtain ⟨xla, xlc, xfa, xfc, rfl, _⟩ := hxr.inv
        obtain ⟨c0, c1, c2, c3, c4⟩ := five hxc
        clear hxc
        go_wp2_with fail
        refine (hcx _ _ (hE _ _ hEw (hbb.step (hbr.step (below_new _ _)))) (by omega) (hxr.later (below_new _ _))).mono ?_
        rintro e w3 ⟨rfl, hb3⟩
        cases ax with
        | false =>
          have he : Hid (av = false) := hall2.out rfl
          go_wp2_with fail
          go_ret
          exact ⟨by rw [he.out]; rfl, hbb.step (hbr.step ((below_new _ _).step hb3))⟩
        | true =>
          go_wp2_with fail
          go_roundg (ps.length - (j + 1))
          case measure => omega
          case rel => exact ⟨j + 1, by omega, by go_num, hsx.out, hbr.step ((below_new _ _).step hb3)⟩
      · have he : Hid (av = true) := by
          have : j = ps.length := by omega
          subst this
          have := hall.out
          rw [List.take_length] at this
          rw [hd.out, this]; rfl
        go_wp2_with fail
        go_ret
        exact ⟨by rw [he.out]; rfl, hbb.step hbr⟩
end Go.Proofs.YtdjegpmjhfbamaaDoor
