/-
  Walks: slices.ContainsFunc and IndexFunc at fields, at whatever function that tells one thing of a field's name; formed, spelled, few.
-/
import Derived.Test.YtdjegpmjhfbamaaDoorVal2
import Derived.Deep.QuietTactic
import Derived.BigQuiet
namespace Go.Proofs.YtdjegpmjhfbamaaDoor
open Go.RowKit Go.Proofs

/-- A function value that tells q of each field's name. -/
def TellsF (E : World → Prop) (g : FuncId) (q : ByteArray → Bool) : Prop :=
  ∀ (nm : ByteArray) (V : PVal) (w : World) (cs : List Value), E w → nm.size ≤ 140737488355328 → Rd w (Now w) V cs → Calls Tryd.prog g #[.agg (.string nm :: cs).toArray] w fun e w' => e = .returned (.bool (q nm)) ∧ Below w.heap.size w w'

theorem indexFunc_calls {E : World → Prop} (hE : Stays E) (g : FuncId) (q : ByteArray → Bool) (hg : TellsF E g q) (hgo : ∀ (args : Array Value) (w : World), (callFunc g args).run Tryd.prog w = .ok (.enter g args) w)
    (fn : List ByteArray) (fv : List PVal) (fa : Option Addr) (fc : Nat) (w : World) (hEw : E w) (hF : RdF w (Now w) fn fv (.slice fa fv.length fc)) :
    Calls Tryd.prog 124 #[.slice fa fv.length fc, .func (.func g) #[] #[]] w fun e w' =>
      ∃ r : Int, e = .returned (.int .i64 r) ∧ (-1 ≤ r ∧ r ≤ 9223372036854775807) ∧ decide (0 ≤ r) = fn.any q ∧ Below w.heap.size w w' := by
  have hlen := hid hF.1
  have hlim : fv.length ≤ 1466015503701 := by obtain ⟨_, _, _, _, _, _, _, h, _⟩ := hF; exact h.2
  have hg' := hid hg
  clear hg
  go_enter Tryd.func124, Tryd.ntmps124
  go_wp2_with fail
  go_loopg [8] fv.length (fun k i wr => ∃ j : Nat, k + j = fv.length ∧ i = .int .i64 j ∧ (fn.take j).any q = false ∧ Below w.heap.size w wr)
  case atStart => exact ⟨0, by omega, rfl, by simp, Below.refl _ _⟩
  case round =>
    obtain ⟨j, hj, rfl, hall, hbr⟩ := hrel
    have hall := hid hall
    have hpr := hF.later hbr
    by_cases hlt : j < fv.length
    · obtain ⟨x, hx⟩ : ∃ x, fv[j]? = some x := ⟨_, List.getElem?_eq_getElem hlt⟩
      obtain ⟨nm, hnm⟩ : ∃ nm, fn[j]? = some nm := ⟨_, List.getElem?_eq_getElem (by rw [hlen.out]; exact hlt)⟩
      obtain ⟨b, off, xs, rfl, hxS, hxc, hxr, hnz⟩ := hpr.at_ hnm hx
      have hcx := hid (hg'.out nm x wr xs (hE _ _ hEw hbr) hnz hxr)
      have hsx : Hid ((fn.take (j + 1)).any q = q nm) := by show _ = _; rw [take_succ_of hnm, List.any_append, hall.out]; simp
      have hall2 : Hid (q nm = true → fn.any q = true) := fun h => List.any_eq_true.2 ⟨nm, List.mem_of_getElem? hnm, h⟩
      generalize q nm = ax at *
      obtain ⟨xk, xn, xsx, xl, xfn, xfv⟩ := x
      obtain ⟨xla, xlc, xfa, xfc, rfl, _⟩ := hxr.inv
      obtain ⟨c0, c1, c2, c3, c4, c5⟩ := six hxc
      clear hxc
      go_wp2_with fail
      refine hcx.out.mono ?_
      rintro e w3 ⟨rfl, hb3⟩
      cases ax with
      | true =>
        have he : Hid (fn.any q = true) := hall2.out rfl
        go_wp2_with fail
        go_ret
        exact ⟨j, rfl, by omega, by rw [he.out]; simp, hbr.step hb3⟩
      | false =>
        go_wp2_with fail
        go_roundg (fv.length - (j + 1))
        case measure => omega
        case rel => exact ⟨j + 1, by omega, by go_num, hsx.out, hbr.step hb3⟩
    · have he : Hid (fn.any q = false) := by
        have h1 : j = fn.length := by rw [hlen.out]; omega
        subst h1
        have := hall.out
        rwa [List.take_length] at this
      go_wp2_with fail
      go_ret
      exact ⟨-1, rfl, by omega, by rw [he.out]; rfl, hbr⟩

theorem containsFunc_calls {E : World → Prop} (hE : Stays E) (g : FuncId) (q : ByteArray → Bool) (hg : TellsF E g q) (hgo : ∀ (args : Array Value) (w : World), (callFunc g args).run Tryd.prog w = .ok (.enter g args) w)
    (fn : List ByteArray) (fv : List PVal) (fa : Option Addr) (fc : Nat) (w : World) (hEw : E w) (hF : RdF w (Now w) fn fv (.slice fa fv.length fc)) :
    Calls Tryd.prog 108 #[.slice fa fv.length fc, .func (.func g) #[] #[]] w fun e w' => e = .returned (.bool (fn.any q)) ∧ Below w.heap.size w w' := by
  have hc := indexFunc_calls hE g q hg hgo fn fv fa fc w hEw hF
  clear hg hE
  go_enter Tryd.func108, Tryd.ntmps108
  go_wp2_with fail
  refine hc.mono ?_
  rintro e w1 ⟨r, rfl, hr, hd, hb⟩
  have hd := hid hd
  go_wp2_with fail
  all_goals go_ret
  all_goals exact ⟨by rw [← hd.out]; simp_all, hb⟩
end Go.Proofs.YtdjegpmjhfbamaaDoor
