/-
  Walks: the reference's shape, few.
-/
import Derived.Test.YthjihdpleclejaaGreatDoorMgRef1
import Derived.Test.YthjihdpleclejaaGreatDoorMgVal1
import Derived.Deep.CutRange
namespace Go.Proofs.YthjihdpleclejaaGreatDoor
open Go.RowKit Go.Proofs
theorem RdL.lim {w : World} {S : Nat → Prop} {xs : List PVal} {la : Option Addr} {n c : Nat} (h : RdL w S xs (.slice la n c)) : xs.length ≤ 1759218604441 := by
 obtain ⟨_, _, _, _, _, h, _⟩ := h
 exact h.2
theorem RdF.lim {w : World} {S : Nat → Prop} {fn : List ByteArray} {fv : List PVal} {v : Value} (h : RdF w S fn fv v) : fv.length ≤ 1466015503701 := by
 obtain ⟨_, _, _, _, _, _, _, h, _⟩ := h
 exact h.2
theorem all_no {α : Type} {q : α → Bool} {l : List α} {j : Nat} {x : α} (h : l[j]? = some x) (hq : q x = false) : l.all q = false := by
 cases hc : l.all q with
 | false => rfl
 | true =>
  have := List.all_eq_true.1 hc x (List.mem_of_getElem? h)
  rw [hq] at this
  cases this
theorem wpList_of_quiet {P : Program} {ops : Array Oper} {Q : Exit → Act → World → Prop} {w : World} : ∀ (l : List Oper) (a : Act), wpQuiet P ops (fun w' => w' = w) (fun a' => Q .normal a' w) l a → wpList P ops Q l a w
 | [], a, h => h
 | o :: l, a, h => by
  refine wpList_step fun K hK => ?_
  unfold wpQuiet at h
  split at h
  ·rename_i hw
   rw [if_pos hw]
   exact Oper.wp_of_quiet (C := fun w' => w' = w) rfl (fun a w' hw' h' => by subst hw'; exact hK a _ (wpList_of_quiet l a h')) h
  ·rename_i hw
   rw [if_neg hw]
   exact hK _ _ (wpList_of_quiet l _ h)
theorem wp_seq_quiet {P : Program} {id : Nat} {Q : Exit → Act → World → Prop} {a : Act} {w : World} {l : List Oper} (h : wpQuiet P l.toArray (fun w' => w' = w) (fun a' => Q .normal a' w) l a) : (Code.region id l.toArray false).wp P Q a w :=
 wp_region_lit (wpList_of_quiet l a h)
theorem wp_via {P : Program} {c : Code} {Q : Exit → Act → World → Prop} {a : Act} {w : World} (F : (Nat → Value) → Act) (h : c.wp P (fun e a' w' => e = .normal ∧ w' = w ∧ ∃ v, a' = F v) a w) (hr : ∀ v, Q .normal (F v) w) : c.wp P Q a w :=
 Code.wp_mono (fun e a' w' ⟨he, hw, v, ha⟩ => by subst he hw ha; exact hr v) h
theorem via_mk (F : (Nat → Value) → Act) (a : Act) (h : F (fun i => a.tmps.getD i undef) = a) : ∃ v, a = F v := ⟨_, h.symm⟩
def headB (k n : Int) (s : ByteArray) (ll fl : Nat) : Bool :=
 decide (1 ≤ k ∧ k ≤ 6) && decide (k = 2 → n = 0 ∨ n = 1) && decide (k ≠ 2 → k ≠ 3 → n = 0) && decide (k ≠ 4 → s.toList = []) && decide (k ≠ 5 → ll = 0) && decide (k ≠ 6 → fl = 0)
theorem formed_head (k n : Int) (s : ByteArray) (l : List PVal) (fn : List ByteArray) (fv : List PVal) : formedB (.mk k n s l fn fv) = (headB k n s l.length fv.length && rising fn) := rfl
set_option maxRecDepth 100000 in
set_option maxHeartbeats 2000000 in
theorem rfew_calls : ∀ (V : PVal) (w : World) (cs : List Value), Rd w (Now w) V cs →
  Calls Tryz.prog 60 #[.agg cs.toArray] w fun e w' => e = .returned (.bool (V.all fewB)) ∧ Below w.heap.size w w' := by
 intro V
 induction hN : V.nodes using Nat.strongRecOn generalizing V with
 | _ N ih =>
 subst hN
 intro w cs hV
 have hd := all_parts fewB V
 have hp := hid (fun w cs h => rparts_calls V w cs h)
 have hpn := nodes_parts V
 have hV0 := hid hV
 obtain ⟨O, hO⟩ : ∃ O, O = fewB V := ⟨_, rfl⟩
 rw [← hO] at hd
 generalize V.parts = ps at *
 generalize V.all fewB = A at *
 replace hd := hid hd
 obtain ⟨k, n, s, l, fn, fv⟩ := V
 obtain ⟨la, lc, fa, fc, rfl, hk, hn, hs, hlc, hlm, hfc, hfm, hL, hF⟩ := hV.inv
 have hfl := hid hF.1
 have hF0 := hid hF
 replace hO := hid hO
 have hFalse : Hid (O = false → A = false) := fun h => by rw [hd.out, h]; rfl
 have hlim := hF.lim
 have hOf : Hid (O = (decide (l.length ≤ 32) && decide (fv.length ≤ 32) && fn.all fun x => decide (1 ≤ x.size ∧ x.size ≤ 24))) := hO.out
 by_cases hl : 32 < l.length
 ·have hA := hid (hFalse.out (by rw [hOf.out, decide_eq_false (by omega : ¬ l.length ≤ 32)]; simp))
  go_enter Tryz.func60, Tryz.ntmps60
  go_wp2_with fail
  go_ret
  exact ⟨by rw [hA.out]; rfl, below_new _ _⟩
 by_cases hf : 32 < fv.length
 ·have hA := hid (hFalse.out (by rw [hOf.out, decide_eq_false (by omega : ¬ fv.length ≤ 32)]; simp))
  go_enter Tryz.func60, Tryz.ntmps60
  go_wp2_with fail
  go_ret
  exact ⟨by rw [hA.out]; rfl, below_new _ _⟩
 replace hOf : Hid (O = fn.all fun x => decide (1 ≤ x.size ∧ x.size ≤ 24)) := by
  show _ = _
  rw [hOf.out, decide_eq_true (by omega : l.length ≤ 32), decide_eq_true (by omega : fv.length ≤ 32)]; simp
 go_enter Tryz.func60, Tryz.ntmps60
 go_wp2_with fail
 go_loopg [3] fv.length (fun g i wr => ∃ m : Nat, (g + m = fv.length) ∧ i = .int .i64 m ∧ (fn.take m).all (fun x => decide (1 ≤ x.size ∧ x.size ≤ 24)) = true ∧ Below (w.alloc (.cells #[.int .i64 k, .int .i64 n, .string s, .slice la l.length lc, .slice fa fv.length fc] 25)).heap.size (w.alloc (.cells #[.int .i64 k, .int .i64 n, .string s, .slice la l.length lc, .slice fa fv.length fc] 25)) wr)
 case atStart => exact ⟨0, by omega, rfl, rfl, Below.refl _ _⟩
 case round =>
  obtain ⟨m, hj, rfl, htk, hbr⟩ := hrel
  have hpr := hF0.out.later ((below_new _ _).step hbr)
  replace htk := hid htk
  by_cases hlt : m < fv.length
  ·obtain ⟨x, hx⟩ : ∃ x, fv[m]? = some x := ⟨_, List.getElem?_eq_getElem hlt⟩
   obtain ⟨nm, hnm⟩ : ∃ nm, fn[m]? = some nm := ⟨_, List.getElem?_eq_getElem (by rw [hfl.out]; exact hlt)⟩
   obtain ⟨b, off, xs, rfl, hxS, hxc, hxr, hnz⟩ := hpr.at_ hnm hx
   have c4 := box_cell (j := 4) hbr rfl
   have c0 : wr.cell? ⟨b, off + m * 6, none⟩ = some (.string nm) := hxc 0 _ rfl
   clear hxc hx
   replace hnm := hid hnm
   by_cases s1 : nm.size < 1
   ·have hA := hid (hFalse.out (hOf.out.trans (all_no hnm.out (by simp; omega))))
    go_wp2_with fail
    go_ret
    exact ⟨by rw [hA.out]; rfl, (below_new _ _).step hbr⟩
   by_cases s2 : 24 < nm.size
   ·have hA := hid (hFalse.out (hOf.out.trans (all_no hnm.out (by simp; omega))))
    go_wp2_with fail
    go_ret
    exact ⟨by rw [hA.out]; rfl, (below_new _ _).step hbr⟩
   go_wp2_with fail
   go_roundg (fv.length - (m + 1))
   case measure => omega
   case rel => exact ⟨m + 1, by omega, by go_num, by rw [take_succ_of hnm.out, List.all_append, htk.out]; simp; omega, hbr⟩
  ·have hOt : Hid (O = true) := by
    have h1 : fn.take m = fn := List.take_of_length_le (by rw [hfl.out]; omega)
    rw [h1] at htk
    exact hOf.out.trans htk.out
   have A0 := box_cell (j := 0) hbr rfl
   have A1 := box_cell (j := 1) hbr rfl
   have A2 := box_cell (j := 2) hbr rfl
   have A3 := box_cell (j := 3) hbr rfl
   have A4 := box_cell (j := 4) hbr rfl
   have hB := hid ((below_new _ _).step hbr)
   go_wp2_with fail
   refine (hp.out _ _ (hV0.out.later hB.out)).mono ?_
   rintro e w1 ⟨pa, pc, rfl, hps, hb1⟩
   have hB1 := hid (hB.out.step hb1)
   have hpl := hps.lim
   clear A0 A1 A2 A3 A4
   go_wp2_with fail
   go_loopg [5] ps.length (fun g i wr => ∃ j : Nat, g + j = ps.length ∧ i = .int .i64 j ∧ (ps.take j).all (·.all fewB) = true ∧ Below w1.heap.size w1 wr)
   case atStart => exact ⟨0, by omega, rfl, rfl, Below.refl _ _⟩
   case round =>
    obtain ⟨j, hj, rfl, htk, hbr2⟩ := hrel
    replace htk := hid htk
    have hpr := hps.later hbr2
    by_cases hlt : j < ps.length
    ·obtain ⟨x, hx⟩ : ∃ x, ps[j]? = some x := ⟨_, List.getElem?_eq_getElem hlt⟩
     obtain ⟨b, off, xs, rfl, hxS, hxc, hxr⟩ := hpr.at_ hx
     have hxn := nodes_mem (List.mem_of_getElem? hx)
     obtain ⟨T, hT⟩ : ∃ T, T = x.all fewB := ⟨_, rfl⟩
     have hcx := hid (fun w cs h => ih x.nodes (by omega) x rfl w cs h)
     rw [← hT] at hcx
     replace hT := hid hT
     replace hx := hid hx
     obtain ⟨xk, xn, xsx, xl, xfn, xfv⟩ := x
     obtain ⟨xla, xlc, xfa, xfc, rfl, _⟩ := hxr.inv
     obtain ⟨c0, c1, c2, c3, c4⟩ := five hxc
     clear hxc
     go_wp2_with fail
     refine (hcx.out _ _ hxr).mono ?_
     rintro e w2 ⟨rfl, hb2⟩
     cases T with
     | false =>
      have hA : Hid (A = false) := by
       show _ = _
       rw [hd.out, all_no hx.out hT.out.symm, Bool.and_false]
      go_wp2_with fail
      go_ret
      exact ⟨by rw [hA.out]; rfl, hB1.out.step (hbr2.step hb2)⟩
     | true =>
      go_wp2_with fail
      go_roundg (ps.length - (j + 1))
      case measure => omega
      case rel => exact ⟨j + 1, by omega, by go_num, by rw [take_succ_of hx.out, List.all_append, htk.out]; simp [← hT.out], hbr2.step hb2⟩
    ·have hA : Hid (A = true) := by
      have : j = ps.length := by omega
      subst this
      have h := htk.out
      rw [List.take_length] at h
      show _ = _
      rw [hd.out, h, hOt.out]; rfl
     go_wp2_with fail
     go_ret
     exact ⟨by rw [hA.out]; rfl, hB1.out.step hbr2⟩
end Go.Proofs.YthjihdpleclejaaGreatDoor
