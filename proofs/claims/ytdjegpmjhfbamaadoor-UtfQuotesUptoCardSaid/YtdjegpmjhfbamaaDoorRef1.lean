/-
  Walks: the reference's parts, Depth, Count.
-/
import Derived.Test.YtdjegpmjhfbamaaDoorVal1
import Derived.Laws.AppendOwnNone
namespace Go.Proofs.YtdjegpmjhfbamaaDoor
open Go.RowKit Go.Proofs

theorem flat_inv {α : Type} (m : Nat) (hm : 0 < m) : ∀ (css : List (List α)), (∀ cs ∈ css, cs.length = m) → ∀ (j : Nat) (u : α), css.flatten[j]? = some u → ∃ i r cs, css[i]? = some cs ∧ cs[r]? = some u ∧ j = i * m + r
  | [], _, j, u, h => by simp at h
  | c :: r, h, j, u, hu => by
    have hc : c.length = m := h c (by simp)
    rw [List.flatten_cons] at hu
    by_cases hj : j < m
    · rw [List.getElem?_append_left (by omega)] at hu
      exact ⟨0, j, c, rfl, hu, by omega⟩
    · rw [List.getElem?_append_right (by omega)] at hu
      obtain ⟨i, q, cs, h1, h2, h3⟩ := flat_inv m hm r (fun x hx => h x (by simp [hx])) _ _ hu
      exact ⟨i + 1, q, cs, by simpa using h1, h2, by rw [Nat.succ_mul]; omega⟩

theorem run_append_nil {P : Program} {w : World} (t ty e : TypeId) (i : TypeInfo) (ht : P.underlying t = some (.slice e)) (hi : P.info? e = some i) (c : Nat) :
    (Builtin.append_ #[t, t] ty #[.slice none 0 0, .slice none 0 c]).run P w = .ok (.slice none 0 0) w := by
  simp [Builtin.append_, run_underlying ht, sizeOf, typeInfo, hi, Builtin.lenOf, Builtin.firstCells]
theorem wpList_append_nil {P : Program} {w : World} {ops : Array Oper} {rest : List Oper} {o : Oper} {a : Act} {Q : Exit → Act → World → Prop} (hgd : o.guard = none) (s x : Operand) (t : TypeId)
    (ho : o.op = .call { callee := .builtin .append, args := #[s, x], argTypes := #[t, t] }) (e : TypeId) (i : TypeInfo) (ht : P.underlying t = some (.slice e)) (hi : P.info? e = some i) (c : Nat)
    (hs : a.eval s = .slice none 0 0) (hx : a.eval x = .slice none 0 c) (h : wpList P ops Q rest (a.put o.dst (.slice none 0 0)) w) : wpList P ops Q (o :: rest) a w := by
  refine wpList_plain hgd fun K hK => ?_
  have hrun := run_append_nil (P := P) (w := w) t o.type e i ht hi c
  unfold Oper.wp
  simp [execOp, ho, resolve, invoke, builtin, hs, hx, hrun, Result.andThen]
  exact hK _ _ h

/-- append(nil, l...) -/
theorem wpList_append_list {P : Program} (w : World) {ops : Array Oper} {rest : List Oper} {o : Oper} {a : Act} {Q : Exit → Act → World → Prop} (hgd : o.guard = none) (s x : Operand) (t : TypeId)
    (ho : o.op = .call { callee := .builtin .append, args := #[s, x], argTypes := #[t, t] })
    (e : Nat) (i : TypeInfo) (z : Value) (ht : P.underlying t = some (.slice e)) (hi : P.info? e = some i) (hz : i.zero = some z) (hsize : i.size = 5) (hby : i.bytes = 80) (hzs : z.cells.size = 5)
    (l : List PVal) (la : Option Addr) (n c : Nat) (hn : l.length = n) (hs : a.eval s = .slice none 0 0) (hx : a.eval x = .slice la n c) (hL : RdL w (Now w) l (.slice la n c))
    (h : ∀ v' w', (∃ la' c', v' = .slice la' n c') → RdL w' (Now w') l v' → Below w.heap.size w w' → wpList P ops Q rest (a.put o.dst v') w') : wpList P ops Q (o :: rest) a w := by
  subst hn
  have hL0 := hL
  obtain ⟨la', cap, cs, hv, hlc, ⟨hcm, hll⟩, hrow, hr⟩ := hL
  injection hv with e1 e2 e3
  subst e1 e3
  match hla : la, l, hrow, hx with
  | none, l, hrow, hx =>
    rcases hrow with h0 | ⟨b, off, hb, _⟩
    · rw [h0] at hx
      refine wpList_append_nil hgd s x t ho e i ht hi c hs hx (h _ _ ⟨none, 0, by rw [h0]⟩ ?_ (Below.refl _ _))
      obtain rfl : l = [] := List.eq_nil_of_length_eq_zero h0
      exact ⟨none, 0, fun _ => [], rfl, Nat.le_refl _, by simp, .inl rfl, fun i x hx => by simp at hx⟩
    · cases hb
  | some ad, l, hrow, hx =>
    obtain ⟨css, hcl, hcr⟩ : ∃ css : List (List Value), css.length = l.length ∧ ∀ i, i < l.length → css[i]? = some (cs i) := ⟨(List.range l.length).map cs, by simp, fun i hi => by simp [hi]⟩
    have hrd : ∀ (i : Nat) (x : PVal) (ys : List Value), l[i]? = some x → css[i]? = some ys → Rd w (Now w) x ys := fun i x ys hx hy => by
      have hi : i < l.length := (List.getElem?_eq_some_iff.1 hx).1
      rw [hcr i hi] at hy
      have := Option.some.inj hy
      subst this
      exact hr i x hx
    have h5 : ∀ ys ∈ css, ys.length = 5 := by
      intro ys hys
      obtain ⟨i, hi⟩ := List.getElem?_of_mem hys
      have hil : i < l.length := by rw [← hcl]; exact (List.getElem?_eq_some_iff.1 hi).1
      exact (hrd i _ ys (List.getElem?_eq_getElem hil) hi).len
    have hfl : css.flatten.length = l.length * 5 := by
      rw [List.length_flatten, ← hcl]
      clear hcl hcr hrd
      induction css with
      | nil => rfl
      | cons c r ih => simp only [List.map_cons, List.sum_cons, List.length_cons]; rw [ih (fun x hx => h5 x (by simp [hx])), h5 c (by simp)]; omega
    refine wpList_append_own w hgd s x t ho w.heap.size e i z 5 80 ht hi hz hsize hby hzs (by omega) (.slice none 0 0) 0 [] hs (World.ownsRow_nil _ _ _ _) ad l.length c css.flatten hx hfl (fun j u hu => ?_) (fun u hu => ?_) (by unfold maxLen; omega) (by omega) (Nat.le_refl _) ?_
    · obtain ⟨i, q, ys, h1, h2, h3⟩ := flat_inv 5 (by decide) css h5 j u hu
      have hil : i < l.length := by rw [← hcl]; exact (List.getElem?_eq_some_iff.1 h1).1
      rcases hrow with h0 | ⟨b, off, hb, _, hc⟩
      · omega
      · obtain rfl : ad = ⟨b, off, none⟩ := Option.some.inj hb
        rw [hcr i hil] at h1
        have := Option.some.inj h1
        subst this
        have := hc i hil q u h2
        rw [h3]
        rw [show off + i * 5 + q = off + (i * 5 + q) by omega] at this
        unfold Addr.add
        split
        · rename_i h00; rw [h00] at this; exact this
        · exact this
    · obtain ⟨ys, hys, hu⟩ := List.mem_flatten.1 hu
      obtain ⟨i, hi⟩ := List.getElem?_of_mem hys
      have hil : i < l.length := by rw [← hcl]; exact (List.getElem?_eq_some_iff.1 hi).1
      exact (hrd i _ ys (List.getElem?_eq_getElem hil) hi).one u hu
    · intro v' w' hown hg _
      have hb : Below w.heap.size w w' := grown_below (by simpa [Value.ownBlock] using hg)
      rw [Nat.zero_add, List.nil_append] at hown
      have hO : OwnL w' (Now w) w.heap.size e l v' := ⟨css, hcl, hown, fun b hb' e => by
        have := (hown.lt b e).1
        have : b < w.heap.size := hb'
        omega, fun i x ys hx hy => (hrd i x ys hx hy).keep (fun _ h => h) (fun b hb' => hb.block b hb')⟩
      refine h v' w' ?_ (hO.read (fun b hb' => Nat.lt_of_lt_of_le hb' hb.size) (fun b hb' => hO.lt b hb') hll) hb
      obtain ⟨oa, oc, rfl, _⟩ := hO.form
      exact ⟨oa, oc, rfl⟩

set_option maxRecDepth 100000 in
theorem rparts_calls (V : PVal) (w : World) (cs : List Value) (h : Rd w (Now w) V cs) :
    Calls Tryd.prog 87 #[.agg cs.toArray] w fun e w' => ∃ la cap, e = .returned (.slice la V.parts.length cap) ∧ RdL w' (Now w') V.parts (.slice la V.parts.length cap) ∧ Below w.heap.size w w' := by
  obtain ⟨k, n, s, l, fn, fv⟩ := V
  have h0 := hid h
  obtain ⟨la, lc, fa, fc, rfl, hk, hn, hs, hlc, hlm, hfc, hfm, hL, hF⟩ := h.inv
  obtain ⟨i0, hi, hz0, hz1, hz2⟩ := info_parts info52
  by_cases h5 : k = 5
  · subst h5
    have hn0 : Hid (PVal.parts (.mk 5 n s l fn fv) = l) := rfl
    have hL := hid (hL.later (below_new w (.cells #[.int .i64 5, .int .i64 n, .string s, .slice la l.length lc, .slice fa fv.length fc] 52)))
    go_enter Tryd.func87, Tryd.ntmps87
    go_wp2_with (first
      | (at_builtin; (refine wpList_append_list _ rfl _ _ 49 rfl 52 i0 _ Tryd.underlying49 hi hz0 hz1 hz2 rfl l la l.length lc rfl rfl rfl hL.out ?_); rintro v' w2 ⟨la', c', rfl⟩ hr2 hb2))
    go_ret
    rw [hn0.out]
    exact ⟨la', c', rfl, hr2, (below_new _ _).step hb2⟩
  by_cases h6 : k = 6
  · subst h6
    clear h5
    have hn0 : Hid (PVal.parts (.mk 6 n s l fn fv) = fv) := rfl
    have hfe := hid hF.1
    go_enter Tryd.func87, Tryd.ntmps87
    go_wp2_with fail
    go_loopg [3, 4] fv.length (fun g o i wr => ∃ j : Nat, g + j = fv.length ∧ i = .int .i64 j ∧ Below (w.alloc (.cells #[.int .i64 6, .int .i64 n, .string s, .slice la l.length lc, .slice fa fv.length fc] 52)).heap.size (w.alloc (.cells #[.int .i64 6, .int .i64 n, .string s, .slice la l.length lc, .slice fa fv.length fc] 52)) wr ∧ OwnL wr (· < w.heap.size) (w.heap.size + 1) 52 (fv.take j) o)
    case atStart => exact ⟨0, by omega, rfl, Below.refl _ _, OwnL.nil _ _ _ _⟩
    case round =>
      obtain ⟨j, hj, rfl, hbr0, hown⟩ := hrel
      have hbr : Below w.heap.size w wr := (below_new _ _).step hbr0
      have c4b := box_cell (j := 4) hbr0 rfl
      have hbs : w.heap.size + 1 ≤ wr.heap.size := by have := hbr0.size; simpa using this
      by_cases hlt : j < fv.length
      · obtain ⟨x, hx⟩ : ∃ x, fv[j]? = some x := ⟨_, List.getElem?_eq_getElem hlt⟩
        obtain ⟨nm, hnm⟩ : ∃ nm, fn[j]? = some nm := ⟨_, List.getElem?_eq_getElem (by rw [hfe.out]; exact hlt)⟩
        obtain ⟨b, off, xs, rfl, hxS, hxc, hxr, hnz⟩ := hF.at_ hnm hx
        obtain ⟨xk, xn, xsx, xl, xfn, xfv⟩ := x
        obtain ⟨xla, xlc, xfa, xfc, rfl, _⟩ := hxr.inv
        obtain ⟨c0, c1, c2, c3, c4, c5⟩ := six (cells_later hbr hxS hxc)
        clear hxc
        have hl : Hid ((fv.take j).length = j) := by show _ = _; simp; omega
        have hbs := hid hbs
        obtain ⟨oa, oc, hof, hoc⟩ := hown.form
        rw [hl.out] at hof hoc
        subst hof
        go_wp2_with (first
          | (at_builtin; (refine wpList_append_val _ rfl _ _ 49 rfl (w.heap.size + 1) 52 i0 _ Tryd.underlying49 hi hz0 hz1 hz2 rfl (· < w.heap.size) (fv.take j) _ j hl.out rfl (hown.keep (below_new _ _) (fun b hb => Nat.lt_of_lt_of_le hb hbr.size)) ⟨wr.heap.size, 0, none⟩ 1 [.int .i64 xk, .int .i64 xn, .string xsx, .slice xla xl.length xlc, .slice xfa xfv.length xfc] (.mk xk xn xsx xl xfn xfv) rfl (cells_new _ _ (by simp) _ _) (hxr.keep (fun _ h => h) (fun b hb => (hbr.step (below_new _ _)).block b hb)) (by omega) (fun b h => Nat.lt_succ_of_lt h) (Nat.le_trans hbs.out (below_new _ _).size) ?_); intro v' w2 hown2 hg2 hlow))
        go_roundg (fv.length - (j + 1))
        case measure => omega
        case rel => exact ⟨j + 1, by omega, by go_num, by simpa using (hbr0.trans (by simpa using (below_new wr (.cells #[.int .i64 xk, .int .i64 xn, .string xsx, .slice xla xl.length xlc, .slice xfa xfv.length xfc] 52)).mono hbs.out)).trans ⟨hg2.os, hg2.tape, hg2.output, hg2.size, by simpa using hlow⟩, by rw [take_succ_of hx]; exact hown2⟩
      · go_wp2_with fail
        obtain rfl : j = fv.length := by omega
        go_ret
        rw [List.take_length] at hown
        obtain ⟨oa, oc, rfl, hoc⟩ := hown.form
        rw [hn0.out]
        refine ⟨oa, oc, rfl, hown.read (fun b hb => Nat.lt_of_lt_of_le hb hbr.size) ?_ (by omega), hbr⟩
        exact fun b hb => hown.lt b hb
  · have b5 : (k == 5) = false := by simpa using h5
    have b6 : (k == 6) = false := by simpa using h6
    go_enter Tryd.func87, Tryd.ntmps87
    go_wp2_with fail
    go_ret
    have e0 : PVal.parts (.mk k n s l fn fv) = [] := by simp [PVal.parts, h5, h6]
    rw [e0]
    exact ⟨none, 0, rfl, ⟨none, 0, fun _ => [], rfl, Nat.le_refl _, by simp, .inl rfl, fun i x hx => by simp at hx⟩, below_new _ _⟩
theorem rdepth_big : ∀ (V : PVal) (w : World) (cs : List Value), V.nodes ≤ 1000000000000 → Rd w (Now w) V cs →
    Calls Tryd.prog 44 #[.agg cs.toArray] w fun e w' => e = .returned (.int .i64 V.depth) ∧ Below w.heap.size w w' := by
  intro V
  induction hN : V.nodes using Nat.strongRecOn generalizing V with
  | _ N ih =>
  subst hN
  intro w cs hN hV
  obtain ⟨k, n, s, l, fn, fv⟩ := V
  obtain ⟨la, lc, fa, fc, rfl, hk, hn, hs, hlc, hlm, hfc, hfm, hL, hF⟩ := hV.inv
  by_cases h56 : k = 5 ∨ k = 6
  · have hd : Hid (PVal.depth (.mk k n s l fn fv) = depthL (PVal.parts (.mk k n s l fn fv)) + 1) := depth_some h56
    have hp := rparts_calls (.mk k n s l fn fv) _ _ (hV.later (below_new w (.cells #[.int .i64 k, .int .i64 n, .string s, .slice la l.length lc, .slice fa fv.length fc] 52)))
    have hpn := nodes_parts (.mk k n s l fn fv)
    generalize PVal.parts (.mk k n s l fn fv) = ps at *
    have hpl := nodesL_length ps
    rcases h56 with rfl | rfl
    all_goals
      go_enter Tryd.func44, Tryd.ntmps44
      go_wp2_with fail
      refine hp.mono ?_
      rintro e w1 ⟨pa, pc, rfl, hps, hb1⟩
      have hb0 : Below w.heap.size w w1 := (below_new w _).step hb1
      go_wp2_with fail
      go_loopg [3, 5] ps.length (fun g m i wr => ∃ j : Nat, g + j = ps.length ∧ i = .int .i64 j ∧ m = .int .i64 (depthL (ps.take j)) ∧ Below w1.heap.size w1 wr)
      case atStart => exact ⟨0, by omega, rfl, rfl, Below.refl _ _⟩
      case round =>
        obtain ⟨j, hj, rfl, rfl, hbr⟩ := hrel
        have hpr := hps.later hbr
        have hdt := Nat.le_trans (depthL_take_le ps j) (depthL_le_nodesL ps (fun x _ => depth_le_nodes x))
        by_cases hlt : j < ps.length
        · obtain ⟨x, hx⟩ : ∃ x, ps[j]? = some x := ⟨_, List.getElem?_eq_getElem hlt⟩
          obtain ⟨b, off, xs, rfl, hxS, hxc, hxr⟩ := hpr.at_ hx
          have hxn := nodes_mem (List.mem_of_getElem? hx)
          have hcx := ih x.nodes (by omega) x rfl
          have hdx := depth_le_nodes x
          have hsx := hid (depthL_succ hx)
          obtain ⟨xk, xn, xsx, xl, xfn, xfv⟩ := x
          obtain ⟨xla, xlc, xfa, xfc, rfl, _⟩ := hxr.inv
          obtain ⟨c0, c1, c2, c3, c4⟩ := five hxc
          clear hxc
          go_wp2_with fail
          refine (hcx _ _ (by omega) hxr).mono ?_
          rintro e w2 ⟨rfl, hb2⟩
          go_wp2_with fail
          all_goals
            go_roundg (ps.length - (j + 1))
            case measure => omega
            case rel => exact ⟨j + 1, by omega, by go_num, by rw [hsx.out]; go_num, hbr.step hb2⟩
        · go_wp2_with fail
          obtain rfl : j = ps.length := by omega
          rw [List.take_length]
          go_ret
          exact ⟨by rw [hd.out]; go_num, hb0.step hbr⟩
  · have h5 : ¬ k = 5 := fun h => h56 (.inl h)
    have h6 : ¬ k = 6 := fun h => h56 (.inr h)
    have b5 : (k != 5) = true := by simp [h5]
    have b6 : (k != 6) = true := by simp [h6]
    go_enter Tryd.func44, Tryd.ntmps44
    go_wp2_with fail
    go_ret
    exact ⟨by simp [PVal.depth, h5, h6], below_new _ _⟩

theorem rcount_big : ∀ (V : PVal) (w : World) (cs : List Value), V.nodes ≤ 1000000000000 → Rd w (Now w) V cs →
    Calls Tryd.prog 46 #[.agg cs.toArray] w fun e w' => e = .returned (.int .i64 V.count) ∧ Below w.heap.size w w' := by
  intro V
  induction hN : V.nodes using Nat.strongRecOn generalizing V with
  | _ N ih =>
  subst hN
  intro w cs hN hV
  have hd := hid (count_parts V)
  have hpn := nodes_parts V
  have hp := fun w cs h => rparts_calls V w cs h
  have hp := hid hp
  generalize V.parts = ps at *
  have hpl := nodesL_length ps
  obtain ⟨k, n, s, l, fn, fv⟩ := V
  obtain ⟨la, lc, fa, fc, rfl, hk, hn, hs, hlc, hlm, hfc, hfm, hL, hF⟩ := hV.inv
  go_enter Tryd.func46, Tryd.ntmps46
  go_wp2_with fail
  refine (hp.out _ _ (hV.later (below_new _ _))).mono ?_
  rintro e w1 ⟨pa, pc, rfl, hps, hb1⟩
  have hb0 : Below w.heap.size w w1 := (below_new w _).step hb1
  go_wp2_with fail
  go_loopg [3, 5] ps.length (fun g m i wr => ∃ j : Nat, g + j = ps.length ∧ i = .int .i64 j ∧ m = .int .i64 (countL (ps.take j) + 1 : Nat) ∧ Below w1.heap.size w1 wr)
  case atStart => exact ⟨0, by omega, rfl, rfl, Below.refl _ _⟩
  case round =>
    obtain ⟨j, hj, rfl, rfl, hbr⟩ := hrel
    have hpr := hps.later hbr
    have hdt := Nat.le_trans (countL_take_le ps j) (countL_le_nodesL ps (fun x _ => count_le_nodes x))
    by_cases hlt : j < ps.length
    · obtain ⟨x, hx⟩ : ∃ x, ps[j]? = some x := ⟨_, List.getElem?_eq_getElem hlt⟩
      obtain ⟨b, off, xs, rfl, hxS, hxc, hxr⟩ := hpr.at_ hx
      have hxn := nodes_mem (List.mem_of_getElem? hx)
      have hcx := ih x.nodes (by omega) x rfl
      have hdx := count_le_nodes x
      have hsx := hid (countL_succ hx)
      obtain ⟨xk, xn, xsx, xl, xfn, xfv⟩ := x
      obtain ⟨xla, xlc, xfa, xfc, rfl, _⟩ := hxr.inv
      obtain ⟨c0, c1, c2, c3, c4⟩ := five hxc
      clear hxc
      go_wp2_with fail
      refine (hcx _ _ (by omega) hxr).mono ?_
      rintro e w2 ⟨rfl, hb2⟩
      go_wp2_with fail
      go_roundg (ps.length - (j + 1))
      case measure => omega
      case rel => exact ⟨j + 1, by omega, by go_num, by rw [hsx.out]; go_num, hbr.step hb2⟩
    · go_wp2_with fail
      obtain rfl : j = ps.length := by omega
      rw [List.take_length]
      go_ret
      exact ⟨by rw [hd.out]; rfl, hb0.step hbr⟩
theorem rdepth_calls (V : PVal) (w : World) (cs : List Value) (hN : V.nodes ≤ 20000) (hV : Rd w (Now w) V cs) :
    Calls Tryd.prog 44 #[.agg cs.toArray] w fun e w' => e = .returned (.int .i64 V.depth) ∧ Below w.heap.size w w' := rdepth_big V w cs (by omega) hV
theorem rcount_calls (V : PVal) (w : World) (cs : List Value) (hN : V.nodes ≤ 20000) (hV : Rd w (Now w) V cs) :
    Calls Tryd.prog 46 #[.agg cs.toArray] w fun e w' => e = .returned (.int .i64 V.count) ∧ Below w.heap.size w w' := rcount_big V w cs (by omega) hV
end Go.Proofs.YtdjegpmjhfbamaaDoor
