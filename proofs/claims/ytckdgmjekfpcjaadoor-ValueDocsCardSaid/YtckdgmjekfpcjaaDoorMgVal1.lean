/-
  Walks: value.parts, Depth, Count: each returns what the plain value says, for every value that lies in memory (of at most 20000 nodes where a number could wrap).
  Walks: value.all at whatever function that tells one thing of a value; slices.ContainsFunc and IndexFunc at fields; formed, spelled, few.
  Walks: slices.ContainsFunc and IndexFunc at fields, at whatever function that tells one thing of a field's name; formed, spelled, few.
  Walks: value.formed, spelled, few.
  Walks: value.formed at documents, and whole; spelled, few.
-/
import Derived.Handy
import Derived.Deep.LoopGhost
import Derived.Test.YtckdgmjekfpcjaaDoorMgPlain
import Derived.Test.YtckdgmjekfpcjaaDoorProg
import Derived.Deep.QuietTactic
import Derived.BigQuiet
import Derived.WalkLawsBesides
namespace Go.Proofs.YtckdgmjekfpcjaaDoor
open Go.RowKit Go.Proofs

theorem info52 : (Tryd.prog.info? 27).map (fun i => (i.zero, i.size, i.bytes)) = some (some (.agg #[.int .i64 0, .int .i64 0, .string ByteArray.empty, .slice none 0 0, .slice none 0 0]), 5, 80) := by kernel_rfl

/-- A function of a value that tells one thing and makes at most new memory. -/
def Tells (w : World) (v : Value) (e : Ending) (w' : World) : Prop := e = .returned v ∧ Below w.heap.size w w'

set_option maxRecDepth 100000 in
theorem parts_calls (V : PVal) (w : World) (cs : List Value) (h : Rd w (Now w) V cs) :
    Calls Tryd.prog 35 #[.agg cs.toArray] w fun e w' => ∃ la cap, e = .returned (.slice la V.parts.length cap) ∧ RdL w' (Now w') V.parts (.slice la V.parts.length cap) ∧ Below w.heap.size w w' := by
  obtain ⟨k, n, s, l, fn, fv⟩ := V
  have h0 := h
  obtain ⟨la, lc, fa, fc, rfl, hk, hn, hs, hlc, hlm, hfc, hfm, hL, hF⟩ := h.inv
  by_cases h5 : k = 5
  · subst h5
    go_enter Tryd.func35, Tryd.ntmps35
    go_wp2_with fail
    go_ret
    exact ⟨la, lc, rfl, hL.later (below_new _ _), below_new _ _⟩
  by_cases h6 : k = 6
  · subst h6
    clear h5
    obtain ⟨i0, hi, hz0, hz1, hz2⟩ := info_parts info52
    have hn0 : Hid (PVal.parts (.mk 6 n s l fn fv) = fv) := rfl
    have hfe := hid hF.1
    go_enter Tryd.func35, Tryd.ntmps35
    go_wp2_with (first
      | (at_make; refine wpList_make_own _ rfl _ _ 25 rfl w.heap.size 27 i0 _ 5 Tryd.underlying25 hi hz0 hz1 .i64 .i64 _ fv.length rfl rfl rfl (by rw [hz2]; omega) (by unfold maxLen; omega) (by simp) ?_; intro w1 hown1 hg1; have hb1 := grown_below hg1; have c4 : w1.cell? ⟨w.heap.size, 4, none⟩ = some (.slice fa fv.length fc) := box_cell hb1 rfl))
    have hF1 := (hF.later (below_new w _)).later hb1
    have hb0 : Below w.heap.size w w1 := (below_new w _).step hb1
    have hown1' : w1.ownsRow w.heap.size 27 5 (.slice (some ⟨w.heap.size + 1, 0, none⟩) 0 fv.length) 0 [] := by simpa using hown1
    have hsz : w.heap.size < w1.heap.size := by have := hb1.size; simp at this; omega
    go_loopg [3, 21] fv.length (fun g o i wr => ∃ j : Nat, g + j = fv.length ∧ i = .int .i64 j ∧ Below w.heap.size w wr ∧ OwnL wr (· < w.heap.size) w.heap.size 27 (fv.take j) o)
    case atStart => exact ⟨0, by omega, rfl, hb0, OwnL.empty hown1' (fun _ h => by simp only [Value.ownBlock]; intro e; injection e with e; omega)⟩
    case round =>
      obtain ⟨j, hj, rfl, hbr, hown⟩ := hrel
      by_cases hlt : j < fv.length
      · obtain ⟨x, hx⟩ : ∃ x, fv[j]? = some x := ⟨_, List.getElem?_eq_getElem hlt⟩
        obtain ⟨nm, hnm⟩ : ∃ nm, fn[j]? = some nm := ⟨_, List.getElem?_eq_getElem (by rw [hfe.out]; exact hlt)⟩
        obtain ⟨b, off, xs, rfl, hxS, hxc, hxr, hnz⟩ := hF.at_ hnm hx
        obtain ⟨xk, xn, xsx, xl, xfn, xfv⟩ := x
        obtain ⟨xla, xlc, xfa, xfc, rfl, _⟩ := hxr.inv
        obtain ⟨c0, c1, c2, c3, c4, c5⟩ := six (cells_later hbr hxS hxc)
        clear hxc
        have hl : Hid ((fv.take j).length = j) := by show _ = _; simp; omega
        obtain ⟨oa, oc, hof, hoc⟩ := hown.form
        rw [hl.out] at hof hoc
        subst hof
        go_wp2_with (first
          | (at_builtin; (refine wpList_append_val _ rfl _ _ 25 rfl w.heap.size 27 i0 _ Tryd.underlying25 hi hz0 hz1 hz2 rfl (· < w.heap.size) (fv.take j) _ j hl.out rfl (hown.keep ((below_new _ _).step (below_new _ _)) (fun b hb => Nat.lt_of_lt_of_le hb hbr.size)) ⟨wr.heap.size + 1, 0, none⟩ 1 [.int .i64 xk, .int .i64 xn, .string xsx, .slice xla xl.length xlc, .slice xfa xfv.length xfc] (.mk xk xn xsx xl xfn xfv) rfl (cells_new _ _ (by simp) _ _) (hxr.keep (fun _ h => h) (fun b hb => (hbr.step ((below_new _ _).step (below_new _ _))).block b hb)) (by omega) (fun _ h => h) (hbr.step ((below_new _ _).step (below_new _ _))).size ?_); intro v' w2 hown2 hg2 hlow))
        go_roundg (fv.length - (j + 1))
        case measure => omega
        case rel => exact ⟨j + 1, by omega, by go_num, (hbr.step ((below_new _ _).step (below_new _ _))).trans ⟨hg2.os, hg2.tape, hg2.output, hg2.size, hlow⟩, by rw [take_succ_of hx]; exact hown2⟩
      · go_wp2_with fail
        obtain rfl : j = fv.length := by omega
        go_ret
        rw [List.take_length] at hown
        obtain ⟨oa, oc, rfl, hoc⟩ := hown.form
        rw [hn0.out]
        refine ⟨oa, oc, rfl, hown.read (fun b hb => Nat.lt_of_lt_of_le hb hbr.size) ?_ (by omega), hbr⟩
        exact fun b hb => hown.lt b hb
  · have b5 : (k == 5) = false := by simpa using h5
    have b6 : (k == 6) = false := by simpa using h6
    go_enter Tryd.func35, Tryd.ntmps35
    go_wp2_with fail
    go_ret
    have e0 : PVal.parts (.mk k n s l fn fv) = [] := by simp [PVal.parts, h5, h6]
    rw [e0]
    exact ⟨none, 0, rfl, ⟨none, 0, fun _ => [], rfl, Nat.le_refl _, by simp, .inl rfl, fun i x hx => by simp at hx⟩, below_new _ _⟩

theorem depth_big : ∀ (V : PVal) (w : World) (cs : List Value), V.nodes ≤ 1000000000000 → Rd w (Now w) V cs →
    Calls Tryd.prog 32 #[.agg cs.toArray] w fun e w' => e = .returned (.int .i64 V.depth) ∧ Below w.heap.size w w' := by
  intro V
  induction hN : V.nodes using Nat.strongRecOn generalizing V with
  | _ N ih =>
  subst hN
  intro w cs hN hV
  obtain ⟨k, n, s, l, fn, fv⟩ := V
  obtain ⟨la, lc, fa, fc, rfl, hk, hn, hs, hlc, hlm, hfc, hfm, hL, hF⟩ := hV.inv
  by_cases h56 : k = 5 ∨ k = 6
  · have hd : Hid (PVal.depth (.mk k n s l fn fv) = depthL (PVal.parts (.mk k n s l fn fv)) + 1) := depth_some h56
    have hp := parts_calls (.mk k n s l fn fv) _ _ (hV.later (below_new w (.cells #[.int .i64 k, .int .i64 n, .string s, .slice la l.length lc, .slice fa fv.length fc] 27)))
    have hpn := nodes_parts (.mk k n s l fn fv)
    generalize PVal.parts (.mk k n s l fn fv) = ps at *
    have hpl := nodesL_length ps
    rcases h56 with rfl | rfl
    all_goals
      go_enter Tryd.func32, Tryd.ntmps32
      go_wp2_with fail
      refine hp.mono ?_
      rintro e w1 ⟨pa, pc, rfl, hps, hb1⟩
      have hb0 : Below w.heap.size w w1 := (below_new w _).step hb1
      go_wp2_with fail
      go_loopg [3, 17] ps.length (fun g m i wr => ∃ j : Nat, g + j = ps.length ∧ i = .int .i64 j ∧ m = .int .i64 (depthL (ps.take j)) ∧ Below w1.heap.size w1 wr)
      case atStart => exact ⟨0, by omega, rfl, rfl, Below.refl _ _⟩
      case round =>
        obtain ⟨j, hj, rfl, rfl, hbr⟩ := hrel
        have hpr := hps.later hbr
        have hdt := Nat.le_trans (depthL_take_le ps j) (depthL_le_nodesL ps (fun x _ => depth_le_nodes x))
        by_cases hlt : j < ps.length
        · obtain ⟨x, hx⟩ : ∃ x, ps[j]? = some x := ⟨_, List.getElem?_eq_getElem hlt⟩
          obtain ⟨b, off, xs, rfl, hxS, hxc, hxr⟩ := hpr.at_ hx
          have hxn := nodes_mem (List.mem_of_getElem? hx)
          have hcx := ih x.nodes (by omega) x rfl
          have hdx := depth_le_nodes x
          have hsx := hid (depthL_succ hx)
          obtain ⟨xk, xn, xsx, xl, xfn, xfv⟩ := x
          obtain ⟨xla, xlc, xfa, xfc, rfl, _⟩ := hxr.inv
          obtain ⟨c0, c1, c2, c3, c4⟩ := five hxc
          clear hxc
          go_wp2_with fail
          refine (hcx _ _ (by omega) (hxr.later (below_new _ _))).mono ?_
          rintro e w2 ⟨rfl, hb2⟩
          go_wp2_with fail
          all_goals
            go_roundg (ps.length - (j + 1))
            case measure => omega
            case rel => exact ⟨j + 1, by omega, by go_num, by rw [hsx.out]; go_num, hbr.step ((below_new _ _).step hb2)⟩
        · go_wp2_with fail
          obtain rfl : j = ps.length := by omega
          rw [List.take_length]
          go_ret
          exact ⟨by rw [hd.out]; go_num, hb0.step hbr⟩
  · have h5 : ¬ k = 5 := fun h => h56 (.inl h)
    have h6 : ¬ k = 6 := fun h => h56 (.inr h)
    have b5 : (k != 5) = true := by simp [h5]
    have b6 : (k != 6) = true := by simp [h6]
    go_enter Tryd.func32, Tryd.ntmps32
    go_wp2_with fail
    go_ret
    exact ⟨by simp [PVal.depth, h5, h6], below_new _ _⟩

theorem depth_calls (V : PVal) (w : World) (cs : List Value) (hN : V.nodes ≤ 20000) (hV : Rd w (Now w) V cs) :
    Calls Tryd.prog 32 #[.agg cs.toArray] w fun e w' => e = .returned (.int .i64 V.depth) ∧ Below w.heap.size w w' := depth_big V w cs (by omega) hV
end Go.Proofs.YtckdgmjekfpcjaaDoor

namespace Go.Proofs.YtckdgmjekfpcjaaDoor
open Go.RowKit Go.Proofs

/-- A function value that tells p of each value, in every world of which E holds. -/
def TellsB (E : World → Prop) (g : FuncId) (p : PVal → Bool) : Prop :=
  ∀ (V : PVal) (w : World) (cs : List Value), E w → Rd w (Now w) V cs → Calls Tryd.prog g #[.agg cs.toArray] w fun e w' => e = .returned (.bool (p V)) ∧ Below w.heap.size w w'
/-- What stays behind whatever turns nothing. -/
def Stays (E : World → Prop) : Prop := ∀ w w', E w → Below w.heap.size w w' → E w'

theorem all_calls {E : World → Prop} (hE : Stays E) (g : FuncId) (p : PVal → Bool) (hg : TellsB E g p) (hgo : ∀ (args : Array Value) (w : World), (callFunc g args).run Tryd.prog w = .ok (.enter g args) w) :
    ∀ (V : PVal) (w : World) (cs : List Value), E w → V.nodes ≤ 1000000000000 → Rd w (Now w) V cs →
    Calls Tryd.prog 28 #[.agg cs.toArray, .func (.func g) #[] #[]] w fun e w' => e = .returned (.bool (V.all p)) ∧ Below w.heap.size w w' := by
  intro V
  induction hN : V.nodes using Nat.strongRecOn generalizing V with
  | _ N ih =>
  subst hN
  intro w cs hEw hN hV
  have hd := hid (all_parts p V)
  have hpn := nodes_parts V
  have hp := hid (fun w cs h => parts_calls V w cs h)
  have hgV := hid (fun w cs h => hg V w cs h)
  generalize V.parts = ps at *
  have hpl := nodesL_length ps
  generalize hpv : p V = pv at *
  clear hpv
  generalize V.all p = av at *
  obtain ⟨k, n, s, l, fn, fv⟩ := V
  obtain ⟨la, lc, fa, fc, rfl, hk, hn, hs, hlc, hlm, hfc, hfm, hL, hF⟩ := hV.inv
  go_enter Tryd.func28, Tryd.ntmps28
  cases pv with
  | false =>
    have he : Hid (av = false) := by rw [hd.out]; rfl
    go_wp2_with fail
    refine (hgV.out _ _ (hE _ _ hEw (below_new _ _)) (hV.later (below_new _ _))).mono ?_
    rintro e w1 ⟨rfl, hb1⟩
    go_wp2_with fail
    go_ret
    exact ⟨by rw [he.out]; rfl, (below_new w _).step hb1⟩
  | true =>
    go_wp2_with fail
    refine (hgV.out _ _ (hE _ _ hEw (below_new _ _)) (hV.later (below_new _ _))).mono ?_
    rintro e w1 ⟨rfl, hb1⟩
    have hb0 : Below w.heap.size w w1 := (below_new w _).step hb1
    have hV1 := hV.later hb0
    have e0 := box_cell (j := 0) hb1 rfl
    have e1 := box_cell (j := 1) hb1 rfl
    have e2 := box_cell (j := 2) hb1 rfl
    have e3 := box_cell (j := 3) hb1 rfl
    have e4 := box_cell (j := 4) hb1 rfl
    go_wp2_with fail
    refine (hp.out _ _ hV1).mono ?_
    rintro e w2 ⟨pa, pc, rfl, hps, hb2⟩
    clear e0 e1 e2 e3 e4
    have hbb := hb0.step hb2
    go_wp2_with fail
    go_loopg [14] ps.length (fun g i wr => ∃ j : Nat, g + j = ps.length ∧ i = .int .i64 j ∧ (ps.take j).all (·.all p) = true ∧ Below w2.heap.size w2 wr)
    case atStart => exact ⟨0, by omega, rfl, by simp, Below.refl _ _⟩
    case round =>
      obtain ⟨j, hj, rfl, hall, hbr⟩ := hrel
      have hall := hid hall
      have hpr := hps.later hbr
      by_cases hlt : j < ps.length
      · obtain ⟨x, hx⟩ : ∃ x, ps[j]? = some x := ⟨_, List.getElem?_eq_getElem hlt⟩
        obtain ⟨b, off, xs, rfl, hxS, hxc, hxr⟩ := hpr.at_ hx
        have hxn := nodes_mem (List.mem_of_getElem? hx)
        have hcx := ih x.nodes (by omega) x rfl
        have hsx : Hid ((ps.take (j + 1)).all (·.all p) = x.all p) := by show _ = _; rw [take_succ_of hx, List.all_append, hall.out]; simp
        have hall2 : Hid (x.all p = false → av = false) := fun h => by
          rw [hd.out, Bool.true_and, List.all_eq_false]
          exact ⟨x, List.mem_of_getElem? hx, by simp [h]⟩
        generalize x.all p = ax at *
        obtain ⟨xk, xn, xsx, xl, xfn, xfv⟩ := x
        obtain ⟨xla, xlc, xfa, xfc, rfl, _⟩ := hxr.inv
        obtain ⟨c0, c1, c2, c3, c4⟩ := five hxc
        clear hxc
        go_wp2_with fail
        refine (hcx _ _ (hE _ _ hEw (hbb.step (hbr.step (below_new _ _)))) (by omega) (hxr.later (below_new _ _))).mono ?_
        rintro e w3 ⟨rfl, hb3⟩
        cases ax with
        | false =>
          have he : Hid (av = false) := hall2.out rfl
          go_wp2_with fail
          go_ret
          exact ⟨by rw [he.out]; rfl, hbb.step (hbr.step ((below_new _ _).step hb3))⟩
        | true =>
          go_wp2_with fail
          go_roundg (ps.length - (j + 1))
          case measure => omega
          case rel => exact ⟨j + 1, by omega, by go_num, hsx.out, hbr.step ((below_new _ _).step hb3)⟩
      · have he : Hid (av = true) := by
          have : j = ps.length := by omega
          subst this
          have := hall.out
          rw [List.take_length] at this
          rw [hd.out, this]; rfl
        go_wp2_with fail
        go_ret
        exact ⟨by rw [he.out]; rfl, hbb.step hbr⟩
end Go.Proofs.YtckdgmjekfpcjaaDoor

namespace Go.Proofs.YtckdgmjekfpcjaaDoor
open Go.RowKit Go.Proofs

/-- A function value that tells q of each field's name. -/
def TellsF (E : World → Prop) (g : FuncId) (q : ByteArray → Bool) : Prop :=
  ∀ (nm : ByteArray) (V : PVal) (w : World) (cs : List Value), E w → nm.size ≤ 140737488355328 → Rd w (Now w) V cs → Calls Tryd.prog g #[.agg (.string nm :: cs).toArray] w fun e w' => e = .returned (.bool (q nm)) ∧ Below w.heap.size w w'

theorem indexFunc_calls {E : World → Prop} (hE : Stays E) (g : FuncId) (q : ByteArray → Bool) (hg : TellsF E g q) (hgo : ∀ (args : Array Value) (w : World), (callFunc g args).run Tryd.prog w = .ok (.enter g args) w)
    (fn : List ByteArray) (fv : List PVal) (fa : Option Addr) (fc : Nat) (w : World) (hEw : E w) (hF : RdF w (Now w) fn fv (.slice fa fv.length fc)) :
    Calls Tryd.prog 50 #[.slice fa fv.length fc, .func (.func g) #[] #[]] w fun e w' =>
      ∃ r : Int, e = .returned (.int .i64 r) ∧ (-1 ≤ r ∧ r ≤ 9223372036854775807) ∧ decide (0 ≤ r) = fn.any q ∧ Below w.heap.size w w' := by
  have hlen := hid hF.1
  have hlim : fv.length ≤ 1466015503701 := by obtain ⟨_, _, _, _, _, _, _, h, _⟩ := hF; exact h.2
  have hg' := hid hg
  clear hg
  go_enter Tryd.func50, Tryd.ntmps50
  go_wp2_with fail
  go_loopg [8] fv.length (fun k i wr => ∃ j : Nat, k + j = fv.length ∧ i = .int .i64 j ∧ (fn.take j).any q = false ∧ Below w.heap.size w wr)
  case atStart => exact ⟨0, by omega, rfl, by simp, Below.refl _ _⟩
  case round =>
    obtain ⟨j, hj, rfl, hall, hbr⟩ := hrel
    have hall := hid hall
    have hpr := hF.later hbr
    by_cases hlt : j < fv.length
    · obtain ⟨x, hx⟩ : ∃ x, fv[j]? = some x := ⟨_, List.getElem?_eq_getElem hlt⟩
      obtain ⟨nm, hnm⟩ : ∃ nm, fn[j]? = some nm := ⟨_, List.getElem?_eq_getElem (by rw [hlen.out]; exact hlt)⟩
      obtain ⟨b, off, xs, rfl, hxS, hxc, hxr, hnz⟩ := hpr.at_ hnm hx
      have hcx := hid (hg'.out nm x wr xs (hE _ _ hEw hbr) hnz hxr)
      have hsx : Hid ((fn.take (j + 1)).any q = q nm) := by show _ = _; rw [take_succ_of hnm, List.any_append, hall.out]; simp
      have hall2 : Hid (q nm = true → fn.any q = true) := fun h => List.any_eq_true.2 ⟨nm, List.mem_of_getElem? hnm, h⟩
      generalize q nm = ax at *
      obtain ⟨xk, xn, xsx, xl, xfn, xfv⟩ := x
      obtain ⟨xla, xlc, xfa, xfc, rfl, _⟩ := hxr.inv
      obtain ⟨c0, c1, c2, c3, c4, c5⟩ := six hxc
      clear hxc
      go_wp2_with fail
      refine hcx.out.mono ?_
      rintro e w3 ⟨rfl, hb3⟩
      cases ax with
      | true =>
        have he : Hid (fn.any q = true) := hall2.out rfl
        go_wp2_with fail
        go_ret
        exact ⟨j, rfl, by omega, by rw [he.out]; simp, hbr.step hb3⟩
      | false =>
        go_wp2_with fail
        go_roundg (fv.length - (j + 1))
        case measure => omega
        case rel => exact ⟨j + 1, by omega, by go_num, hsx.out, hbr.step hb3⟩
    · have he : Hid (fn.any q = false) := by
        have h1 : j = fn.length := by rw [hlen.out]; omega
        subst h1
        have := hall.out
        rwa [List.take_length] at this
      go_wp2_with fail
      go_ret
      exact ⟨-1, rfl, by omega, by rw [he.out]; rfl, hbr⟩

theorem containsFunc_calls {E : World → Prop} (hE : Stays E) (g : FuncId) (q : ByteArray → Bool) (hg : TellsF E g q) (hgo : ∀ (args : Array Value) (w : World), (callFunc g args).run Tryd.prog w = .ok (.enter g args) w)
    (fn : List ByteArray) (fv : List PVal) (fa : Option Addr) (fc : Nat) (w : World) (hEw : E w) (hF : RdF w (Now w) fn fv (.slice fa fv.length fc)) :
    Calls Tryd.prog 43 #[.slice fa fv.length fc, .func (.func g) #[] #[]] w fun e w' => e = .returned (.bool (fn.any q)) ∧ Below w.heap.size w w' := by
  have hc := indexFunc_calls hE g q hg hgo fn fv fa fc w hEw hF
  clear hg hE
  go_enter Tryd.func43, Tryd.ntmps43
  go_wp2_with fail
  refine hc.mono ?_
  rintro e w1 ⟨r, rfl, hr, hd, hb⟩
  have hd := hid hd
  go_wp2_with fail
  all_goals go_ret
  all_goals exact ⟨by rw [← hd.out]; simp_all, hb⟩
end Go.Proofs.YtckdgmjekfpcjaaDoor

namespace Go.Proofs.YtckdgmjekfpcjaaDoor
open Go.RowKit Go.Proofs

theorem formed_no {k n : Int} {s : ByteArray} {l : List PVal} {fn : List ByteArray} {fv : List PVal}
    (h : ¬ (1 ≤ k ∧ k ≤ 6) ∨ (k = 2 ∧ ¬ n = 0 ∧ ¬ n = 1) ∨ (¬ k = 2 ∧ ¬ k = 3 ∧ ¬ n = 0) ∨ (¬ k = 4 ∧ s.toList.isEmpty = false) ∨ (¬ k = 5 ∧ 0 < l.length) ∨ (¬ k = 6 ∧ 0 < fv.length)) :
    formedB (.mk k n s l fn fv) = false := by
  rw [Bool.eq_false_iff]
  intro hc
  simp only [formedB, Bool.and_eq_true, decide_eq_true_eq] at hc
  obtain ⟨⟨⟨⟨⟨⟨h1, h2⟩, h3⟩, h4⟩, h5⟩, h6⟩, _⟩ := hc
  rcases h with h | ⟨a, b, c⟩ | ⟨a, b, c⟩ | ⟨a, b⟩ | ⟨a, b⟩ | ⟨a, b⟩
  · exact h h1
  · rcases h2 a with h | h
    · exact b h
    · exact c h
  · exact c (h3 a b)
  · rw [h4 a] at b; simp at b
  · have := h5 a; omega
  · have := h6 a; omega

set_option maxRecDepth 100000 in
set_option maxHeartbeats 1000000 in
theorem formed_l (k n : Int) (s : ByteArray) (la fa : Option Addr) (ll lc fl fc : Nat) (w : World) (hk : -9223372036854775808 ≤ k ∧ k ≤ 9223372036854775807) (b5 : (k != 5) = true) (hl : 0 < (ll : Int)) :
    Calls Tryd.prog 29 #[.agg #[.int .i64 k, .int .i64 n, .string s, .slice la ll lc, .slice fa fl fc]] w fun e w' => e = .returned (.bool false) ∧ Below w.heap.size w w' := by
  go_enter Tryd.func29, Tryd.ntmps29
  go_wp2_with fail
  all_goals go_ret
  all_goals exact ⟨rfl, below_new _ _⟩

set_option maxRecDepth 100000 in
set_option maxHeartbeats 1000000 in
theorem formed_f (k n : Int) (s : ByteArray) (la fa : Option Addr) (lc fl fc : Nat) (w : World) (hk : -9223372036854775808 ≤ k ∧ k ≤ 9223372036854775807)
    (b6 : (k != 6) = true) (hf : 0 < (fl : Int)) :
    Calls Tryd.prog 29 #[.agg #[.int .i64 k, .int .i64 n, .string s, .slice la 0 lc, .slice fa fl fc]] w fun e w' => e = .returned (.bool false) ∧ Below w.heap.size w w' := by
  go_enter Tryd.func29, Tryd.ntmps29
  go_wp2_with fail
  all_goals go_ret
  all_goals exact ⟨rfl, below_new _ _⟩
set_option maxRecDepth 100000 in
set_option maxHeartbeats 1000000 in
theorem formed_f5 (n : Int) (s : ByteArray) (la fa : Option Addr) (ll lc fl fc : Nat) (w : World) (hf : 0 < (fl : Int)) :
    Calls Tryd.prog 29 #[.agg #[.int .i64 5, .int .i64 n, .string s, .slice la ll lc, .slice fa fl fc]] w fun e w' => e = .returned (.bool false) ∧ Below w.heap.size w w' := by
  go_enter Tryd.func29, Tryd.ntmps29
  go_wp2_with fail
  all_goals go_ret
  all_goals exact ⟨rfl, below_new _ _⟩

set_option maxRecDepth 100000 in
set_option maxHeartbeats 1000000 in
theorem formed_5 (n : Int) (s : ByteArray) (l : List PVal) (la fa : Option Addr) (lc fc : Nat) (w : World) :
    Calls Tryd.prog 29 #[.agg #[.int .i64 5, .int .i64 n, .string s, .slice la l.length lc, .slice fa 0 fc]] w fun e w' => e = .returned (.bool (formedB (.mk 5 n s l [] []))) ∧ Below w.heap.size w w' := by
  by_cases h0 : n = 0
  · subst h0
    cases hs : s.toList.isEmpty with
    | true =>
      have he : Hid (formedB (.mk 5 0 s l [] []) = true) := by
        show _ = _
        have : s.toList = [] := by simpa using hs
        simp [formedB, rising, this]
      generalize formedB (.mk 5 0 s l [] []) = R at *
      go_enter Tryd.func29, Tryd.ntmps29
      go_wp2_with fail
      go_rounds 1
      go_ret
      exact ⟨by rw [he.out]; rfl, below_new _ _⟩
    | false =>
      rw [formed_no (by simp [hs])]
      go_enter Tryd.func29, Tryd.ntmps29
      go_wp2_with fail
      all_goals go_ret
      all_goals exact ⟨rfl, below_new _ _⟩
  · rw [formed_no (by simp [h0])]
    have b0 : (n != 0) = true := by simp [h0]
    go_enter Tryd.func29, Tryd.ntmps29
    go_wp2_with fail
    all_goals go_ret
    all_goals exact ⟨rfl, below_new _ _⟩

set_option maxRecDepth 100000 in
set_option maxHeartbeats 2000000 in
theorem formed_flat_no (k n : Int) (s : ByteArray) (la fa : Option Addr) (lc fc : Nat) (w : World) (hk : -9223372036854775808 ≤ k ∧ k ≤ 9223372036854775807)
    (hno : ¬ ((1 ≤ k ∧ k ≤ 6) ∧ (k = 2 → n = 0 ∨ n = 1) ∧ (k ≠ 2 → k ≠ 3 → n = 0) ∧ (k ≠ 4 → s.toList.isEmpty = true))) :
    Calls Tryd.prog 29 #[.agg #[.int .i64 k, .int .i64 n, .string s, .slice la 0 lc, .slice fa 0 fc]] w fun e w' => e = .returned (.bool false) ∧ Below w.heap.size w w' := by
  by_cases h1 : k < 1
  · clear hno
    go_enter Tryd.func29, Tryd.ntmps29
    go_wp2_with fail
    all_goals go_ret
    all_goals exact ⟨rfl, below_new _ _⟩
  by_cases h2 : 6 < k
  · clear hno
    go_enter Tryd.func29, Tryd.ntmps29
    go_wp2_with fail
    all_goals go_ret
    all_goals exact ⟨rfl, below_new _ _⟩
  by_cases h3 : k = 2 ∧ ¬ (n = 0 ∨ n = 1)
  · obtain ⟨rfl, h⟩ := h3
    have b0 : (n != 0) = true := by simp; exact fun e => h (.inl e)
    have b1 : (n != 1) = true := by simp; exact fun e => h (.inr e)
    clear hno h h1 h2
    go_enter Tryd.func29, Tryd.ntmps29
    go_wp2_with fail
    all_goals go_ret
    all_goals exact ⟨rfl, below_new _ _⟩
  by_cases h4 : k ≠ 2 ∧ k ≠ 3 ∧ ¬ n = 0
  · obtain ⟨a, b, c⟩ := h4
    have b2 : (k == 2) = false := by simp [a]
    have b2' : (k != 2) = true := by simp [a]
    have b3 : (k != 3) = true := by simp [b]
    have b0 : (n != 0) = true := by simp [c]
    clear hno h3 a b c
    go_enter Tryd.func29, Tryd.ntmps29
    go_wp2_with fail
    all_goals go_ret
    all_goals exact ⟨rfl, below_new _ _⟩
  by_cases h5 : k ≠ 4 ∧ s.toList.isEmpty = false
  · obtain ⟨a, b⟩ := h5
    have b4 : (k != 4) = true := by simp [a]
    clear hno h3 h4 a
    go_enter Tryd.func29, Tryd.ntmps29
    go_wp2_with fail
    all_goals go_ret
    all_goals exact ⟨rfl, below_new _ _⟩
  exact absurd ⟨⟨by omega, by omega⟩, fun a => Classical.byContradiction fun b => h3 ⟨a, b⟩, fun a b => Classical.byContradiction fun c => h4 ⟨a, b, c⟩, fun a => by
    cases hb : s.toList.isEmpty with
    | true => rfl
    | false => exact absurd ⟨a, hb⟩ h5⟩ hno

set_option maxRecDepth 100000 in
set_option maxHeartbeats 2000000 in
theorem formed_flat_yes (k n : Int) (s : ByteArray) (la fa : Option Addr) (lc fc : Nat) (w : World) (h6 : ¬ k = 6)
    (hall : (1 ≤ k ∧ k ≤ 6) ∧ (k = 2 → n = 0 ∨ n = 1) ∧ (k ≠ 2 → k ≠ 3 → n = 0) ∧ (k ≠ 4 → s.toList.isEmpty = true)) :
    Calls Tryd.prog 29 #[.agg #[.int .i64 k, .int .i64 n, .string s, .slice la 0 lc, .slice fa 0 fc]] w fun e w' => e = .returned (.bool true) ∧ Below w.heap.size w w' := by
  obtain ⟨hk, h2, h3, h4⟩ := hall
  have : k = 1 ∨ k = 2 ∨ k = 3 ∨ k = 4 ∨ k = 5 := by omega
  clear hk h6
  rcases this with rfl | rfl | rfl | rfl | rfl
  · have hn := h3 (by decide) (by decide)
    have hs := h4 (by decide)
    subst hn
    clear h2 h3 h4
    go_enter Tryd.func29, Tryd.ntmps29
    go_wp2_with fail
    go_rounds 1
    go_ret
    exact ⟨rfl, below_new _ _⟩
  · have hn := h2 rfl
    have hs := h4 (by decide)
    clear h2 h3 h4
    rcases hn with rfl | rfl
    all_goals
      go_enter Tryd.func29, Tryd.ntmps29
      go_wp2_with fail
      go_rounds 1
      go_ret
      exact ⟨rfl, below_new _ _⟩
  · have hs := h4 (by decide)
    clear h2 h3 h4
    go_enter Tryd.func29, Tryd.ntmps29
    go_wp2_with fail
    go_rounds 1
    go_ret
    exact ⟨rfl, below_new _ _⟩
  · have hn := h3 (by decide) (by decide)
    subst hn
    clear h2 h3 h4
    go_enter Tryd.func29, Tryd.ntmps29
    go_wp2_with fail
    go_rounds 1
    go_ret
    exact ⟨rfl, below_new _ _⟩
  · have hn := h3 (by decide) (by decide)
    have hs := h4 (by decide)
    subst hn
    clear h2 h3 h4
    go_enter Tryd.func29, Tryd.ntmps29
    go_wp2_with fail
    go_rounds 1
    go_ret
    exact ⟨rfl, below_new _ _⟩
theorem rising_take (l : List ByteArray) : ∀ m, rising l = true → rising (l.take m) = true := by
  induction l with
  | nil => intro m h; simp [rising]
  | cons a r ih =>
    intro m h
    match m, r with
    | 0, _ => rfl
    | 1, _ => cases r <;> rfl
    | m + 2, [] => rfl
    | m + 2, b :: r =>
      simp only [rising, Bool.and_eq_true] at h
      have := ih (m + 1) h.2
      simp only [List.take_succ_cons, rising, Bool.and_eq_true] at this ⊢
      exact ⟨h.1, this⟩
theorem rising_succ : ∀ (l : List ByteArray) (j : Nat) (a b : ByteArray), l[j]? = some a → l[j + 1]? = some b → rising (l.take (j + 2)) = (rising (l.take (j + 1)) && blt a b)
  | [], j, a, b, h, _ => by simp at h
  | [x], 0, a, b, h, h' => by simp at h'
  | [x], j + 1, a, b, h, h' => by simp at h
  | x :: y :: r, 0, a, b, h, h' => by
    simp at h h'
    subst h h'
    simp [rising]
  | x :: y :: r, j + 1, a, b, h, h' => by
    have ih := rising_succ (y :: r) j a b (by simpa using h) (by simpa using h')
    simp only [List.take_succ_cons, rising] at ih ⊢
    rw [ih, Bool.and_assoc]

end Go.Proofs.YtckdgmjekfpcjaaDoor

namespace Go.Proofs.YtckdgmjekfpcjaaDoor
open Go.RowKit Go.Proofs

theorem below_drewN {B : Nat} {a w : World} (h : Below B a w) : ∀ n, Below B a (w.drewN n)
  | 0 => h
  | n + 1 => (below_drewN h n).drew
set_option maxRecDepth 100000 in
set_option maxHeartbeats 2000000 in
theorem formed_6 (s : ByteArray) (hs : s.toList.isEmpty = true) (la fa : Option Addr) (lc fc : Nat) (fn : List ByteArray) (fv : List PVal) (w : World) (hF : RdF w (Now w) fn fv (.slice fa fv.length fc)) :
    Calls Tryd.prog 29 #[.agg #[.int .i64 6, .int .i64 0, .string s, .slice la 0 lc, .slice fa fv.length fc]] w fun e w' => e = .returned (.bool (rising fn)) ∧ Below w.heap.size w w' := by
  have hlen := hid hF.1
  have hlim : fv.length ≤ 1466015503701 := by obtain ⟨_, _, _, _, _, _, _, h, _⟩ := hF; exact h.2
  go_enter Tryd.func29, Tryd.ntmps29
  go_wp2_with fail
  go_loopg [3] (fv.length + 1) (fun g i wr => ∃ m : Nat, (g + m = fv.length + 1) ∧ i = .int .i64 ((m : Int) + 1) ∧ m ≤ fv.length ∧ rising (fn.take (m + 1)) = true ∧ Below w.heap.size w wr ∧ wr.cell? ⟨w.heap.size, 4, none⟩ = some (.slice fa fv.length fc))
  case atStart => exact ⟨0, by omega, by simp, by omega, by cases fn <;> simp [rising], below_new _ _, box_cell (Below.refl _ _) rfl⟩
  case round =>
    obtain ⟨m, hj, rfl, hm, hris, hbr, c4⟩ := hrel
    have hpr := hF.later hbr
    have hris := hid hris
    by_cases hlt : m + 1 < fv.length
    · obtain ⟨x, hx⟩ : ∃ x, fv[m + 1]? = some x := ⟨_, List.getElem?_eq_getElem hlt⟩
      obtain ⟨nm, hnm⟩ : ∃ nm, fn[m + 1]? = some nm := ⟨_, List.getElem?_eq_getElem (by rw [hlen.out]; exact hlt)⟩
      obtain ⟨y, hy⟩ : ∃ x, fv[m]? = some x := ⟨_, List.getElem?_eq_getElem (by omega)⟩
      obtain ⟨nn, hnn⟩ : ∃ nm, fn[m]? = some nm := ⟨_, List.getElem?_eq_getElem (by rw [hlen.out]; omega)⟩
      obtain ⟨b, off, xs, rfl, hxS, hxc, hxr, hnz⟩ := hpr.at_ hnm hx
      obtain ⟨b', off', ys, he, hyS, hyc, hyr, hnz'⟩ := hpr.at_ hnn hy
      injection he with he
      injection he with he1 he2
      subst he1 he2
      have c0 : wr.cell? ⟨b, off + (m + 1) * 6, none⟩ = some (.string nm) := hxc 0 _ rfl
      have d0 : wr.cell? ⟨b, off + m * 6, none⟩ = some (.string nn) := hyc 0 _ rfl
      have hrs := hid (rising_succ fn m nn nm hnn hnm)
      clear hxc hyc hx hnm hy hnn
      have w1 : IntKind.i64.wrap (m : Int) = (m : Int) := IntWalk.i64_in _ ⟨by omega, by omega⟩
      have p1 : (0 : Int) ≤ (m : Int) + 1 := by omega
      have l1 : (m : Int) + 1 < (fv.length : Int) := by omega
      have l0 : (m : Int) < (fv.length : Int) := by omega
      have t1 : ((m : Int) + 1).toNat = m + 1 := by omega
      go_wp2_with fail
      go_quiet (fail)
      go_wp2_with fail
      · have ht : (!Op.bytesLess nn.toList nm.toList) = true := by assumption
        have hf : rising fn = false := by
          cases hc : rising fn with
          | false => rfl
          | true =>
            have h1 := rising_take fn (m + 2) hc
            rw [hrs.out, hris.out, Bool.true_and] at h1
            unfold blt at h1
            rw [h1] at ht
            simp at ht
        rw [hf]
        go_ret
        exact ⟨rfl, below_drewN hbr _⟩
      · have ht : (!Op.bytesLess nn.toList nm.toList) = false := by assumption
        go_roundg (fv.length - m)
        case measure => omega
        case rel => exact ⟨m + 1, by omega, by go_num, by omega, by rw [hrs.out, hris.out, Bool.true_and]; unfold blt; simpa using ht, below_drewN hbr _, c4⟩
    · have he : Hid (rising fn = true) := by
        have h1 : fn.take (m + 1) = fn := List.take_of_length_le (by rw [hlen.out]; omega)
        rw [h1] at hris
        exact hris.out
      go_wp2_with fail
      go_ret
      exact ⟨by rw [he.out]; rfl, hbr⟩

set_option maxRecDepth 100000 in
theorem formed_6_n (n : Int) (b0 : (n != 0) = true) (s : ByteArray) (la fa : Option Addr) (lc fl fc : Nat) (w : World) :
    Calls Tryd.prog 29 #[.agg #[.int .i64 6, .int .i64 n, .string s, .slice la 0 lc, .slice fa fl fc]] w fun e w' => e = .returned (.bool false) ∧ Below w.heap.size w w' := by
  go_enter Tryd.func29, Tryd.ntmps29
  go_wp2_with fail
  all_goals go_ret
  all_goals exact ⟨rfl, below_new _ _⟩
set_option maxRecDepth 100000 in
theorem formed_6_s (n : Int) (s : ByteArray) (hs : s.toList.isEmpty = false) (la fa : Option Addr) (lc fl fc : Nat) (w : World) :
    Calls Tryd.prog 29 #[.agg #[.int .i64 6, .int .i64 n, .string s, .slice la 0 lc, .slice fa fl fc]] w fun e w' => e = .returned (.bool false) ∧ Below w.heap.size w w' := by
  go_enter Tryd.func29, Tryd.ntmps29
  go_wp2_with fail
  all_goals go_ret
  all_goals exact ⟨rfl, below_new _ _⟩

theorem formed_calls (V : PVal) (w : World) (cs : List Value) (h : Rd w (Now w) V cs) :
    Calls Tryd.prog 29 #[.agg cs.toArray] w fun e w' => e = .returned (.bool (formedB V)) ∧ Below w.heap.size w w' := by
  obtain ⟨k, n, s, l, fn, fv⟩ := V
  obtain ⟨la, lc, fa, fc, rfl, hk, hn, hs, hlc, hlm, hfc, hfm, hL, hF⟩ := h.inv
  have hlen := hF.1
  by_cases hl5 : k ≠ 5 ∧ 0 < l.length
  · rw [formed_no (by simp only [hl5]; simp)]
    exact formed_l k n s la fa l.length lc fv.length fc w hk (by simp [hl5.1]) (by omega)
  by_cases hf6 : k ≠ 6 ∧ 0 < fv.length
  · rw [formed_no (by simp only [hf6]; simp)]
    by_cases h5 : k = 5
    · subst h5
      exact formed_f5 n s la fa l.length lc fv.length fc w (by omega)
    · have h0 : l.length = 0 := by omega
      rw [h0]
      exact formed_f k n s la fa lc fv.length fc w hk (by simp [hf6.1]) (by omega)
  by_cases h5 : k = 5
  · subst h5
    have h0 : fv = [] := List.eq_nil_of_length_eq_zero (by omega)
    subst h0
    have h1 : fn = [] := List.eq_nil_of_length_eq_zero (by simpa using hlen)
    subst h1
    exact formed_5 n s l la fa lc fc w
  have hl0 : l = [] := List.eq_nil_of_length_eq_zero (by omega)
  subst hl0
  by_cases h6 : k = 6
  · subst h6
    by_cases hn0 : n = 0 ∧ s.toList.isEmpty = true
    · obtain ⟨rfl, hs0⟩ := hn0
      have he : formedB (.mk 6 0 s [] fn fv) = rising fn := by
        have : s.toList = [] := by simpa using hs0
        simp [formedB, this]
      rw [he]
      exact formed_6 s hs0 la fa lc fc fn fv w hF
    · have hno : formedB (.mk 6 n s [] fn fv) = false := formed_no (by
        by_cases hn1 : n = 0
        · right; right; right; left
          exact ⟨by decide, by cases hc : s.toList.isEmpty with
            | false => rfl
            | true => exact absurd ⟨hn1, hc⟩ hn0⟩
        · right; right; left
          exact ⟨by decide, by decide, hn1⟩)
      rw [hno]
      by_cases hn1 : n = 0
      · exact formed_6_s n s (by cases hc : s.toList.isEmpty with
          | false => rfl
          | true => exact absurd ⟨hn1, hc⟩ hn0) la fa lc fv.length fc w
      · exact formed_6_n n (by simp [hn1]) s la fa lc fv.length fc w
  · have h0 : fv = [] := List.eq_nil_of_length_eq_zero (by omega)
    subst h0
    have h1 : fn = [] := List.eq_nil_of_length_eq_zero (by simpa using hlen)
    subst h1
    by_cases hall : (1 ≤ k ∧ k ≤ 6) ∧ (k = 2 → n = 0 ∨ n = 1) ∧ (k ≠ 2 → k ≠ 3 → n = 0) ∧ (k ≠ 4 → s.toList.isEmpty = true)
    · have he : formedB (.mk k n s [] [] []) = true := by
        simp only [formedB, Bool.and_eq_true, decide_eq_true_eq]
        obtain ⟨a, b, c, d⟩ := hall
        exact ⟨⟨⟨⟨⟨⟨a, b⟩, c⟩, fun h => by simpa using d h⟩, fun _ => rfl⟩, fun _ => rfl⟩, rfl⟩
      rw [he]
      exact formed_flat_yes k n s la fa lc fc w h6 hall
    · have he : formedB (.mk k n s [] [] []) = false := formed_no (by
        apply Classical.byContradiction
        intro hc
        simp only [not_or] at hc
        obtain ⟨a, b, c, d, _⟩ := hc
        refine hall ⟨Classical.not_not.1 a, fun e => ?_, fun e f => ?_, fun e => ?_⟩
        · apply Classical.byContradiction; intro g; simp only [not_or] at g; exact b ⟨e, g⟩
        · apply Classical.byContradiction; intro g; exact c ⟨e, f, g⟩
        · cases hc : s.toList.isEmpty with
          | true => rfl
          | false => exact absurd ⟨e, hc⟩ d)
      rw [he]
      exact formed_flat_no k n s la fa lc fc w hk hall
end Go.Proofs.YtckdgmjekfpcjaaDoor
