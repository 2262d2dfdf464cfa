/-
  Walks: the reference's parts, Depth, Count.
  Slices of bytes in new memory.
  A scope in which the run jumps from label to label; bytes of the call's own turned into a text. No condition.
  Worlds in which one old block may have turned. No condition.
  A region that draws its order: its head's operations yield each one value in whatever later world (they read, or call what turns nothing), and its tail's come one behind the other: walked once, in the order of the text. No condition.
-/
import Derived.Test.YtihcegakghmdfaaDoorMgVal1
import Derived.Laws.AppendOwnNone
import Derived.Test.YtihcegakghmdfaaDoorMgBuf
import Derived.WalkKit
import Derived.Test.YtihcegakghmdfaaDoorProg
import Derived.ScopeJumps
import Derived.WalkMore
import Derived.Laws.IdiomStrings
import Derived.Lib.BufferRead
import Derived.Test.YtihcegakghmdfaaDoorMgPlain
import Derived.Deep.QuietTactic
import Derived.BigQuiet
import Derived.StillTail
import Derived.Below
namespace Go.Proofs.YtihcegakghmdfaaDoor
open Go.RowKit Go.Proofs

theorem flat_inv {α : Type} (m : Nat) (hm : 0 < m) : ∀ (css : List (List α)), (∀ cs ∈ css, cs.length = m) → ∀ (j : Nat) (u : α), css.flatten[j]? = some u → ∃ i r cs, css[i]? = some cs ∧ cs[r]? = some u ∧ j = i * m + r
  | [], _, j, u, h => by simp at h
  | c :: r, h, j, u, hu => by
    have hc : c.length = m := h c (by simp)
    rw [List.flatten_cons] at hu
    by_cases hj : j < m
    · rw [List.getElem?_append_left (by omega)] at hu
      exact ⟨0, j, c, rfl, hu, by omega⟩
    · rw [List.getElem?_append_right (by omega)] at hu
      obtain ⟨i, q, cs, h1, h2, h3⟩ := flat_inv m hm r (fun x hx => h x (by simp [hx])) _ _ hu
      exact ⟨i + 1, q, cs, by simpa using h1, h2, by rw [Nat.succ_mul]; omega⟩

theorem run_append_nil {P : Program} {w : World} (t ty e : TypeId) (i : TypeInfo) (ht : P.underlying t = some (.slice e)) (hi : P.info? e = some i) (c : Nat) :
    (Builtin.append_ #[t, t] ty #[.slice none 0 0, .slice none 0 c]).run P w = .ok (.slice none 0 0) w := by
  simp [Builtin.append_, run_underlying ht, sizeOf, typeInfo, hi, Builtin.lenOf, Builtin.firstCells]
theorem wpList_append_nil {P : Program} {w : World} {ops : Array Oper} {rest : List Oper} {o : Oper} {a : Act} {Q : Exit → Act → World → Prop} (hgd : o.guard = none) (s x : Operand) (t : TypeId)
    (ho : o.op = .call { callee := .builtin .append, args := #[s, x], argTypes := #[t, t] }) (e : TypeId) (i : TypeInfo) (ht : P.underlying t = some (.slice e)) (hi : P.info? e = some i) (c : Nat)
    (hs : a.eval s = .slice none 0 0) (hx : a.eval x = .slice none 0 c) (h : wpList P ops Q rest (a.put o.dst (.slice none 0 0)) w) : wpList P ops Q (o :: rest) a w := by
  refine wpList_plain hgd fun K hK => ?_
  have hrun := run_append_nil (P := P) (w := w) t o.type e i ht hi c
  unfold Oper.wp
  simp [execOp, ho, resolve, invoke, builtin, hs, hx, hrun, Result.andThen]
  exact hK _ _ h

/-- append(nil, l...) -/
theorem wpList_append_list {P : Program} (w : World) {ops : Array Oper} {rest : List Oper} {o : Oper} {a : Act} {Q : Exit → Act → World → Prop} (hgd : o.guard = none) (s x : Operand) (t : TypeId)
    (ho : o.op = .call { callee := .builtin .append, args := #[s, x], argTypes := #[t, t] })
    (e : Nat) (i : TypeInfo) (z : Value) (ht : P.underlying t = some (.slice e)) (hi : P.info? e = some i) (hz : i.zero = some z) (hsize : i.size = 5) (hby : i.bytes = 80) (hzs : z.cells.size = 5)
    (l : List PVal) (la : Option Addr) (n c : Nat) (hn : l.length = n) (hs : a.eval s = .slice none 0 0) (hx : a.eval x = .slice la n c) (hL : RdL w (Now w) l (.slice la n c))
    (h : ∀ v' w', (∃ la' c', v' = .slice la' n c') → RdL w' (Now w') l v' → Below w.heap.size w w' → wpList P ops Q rest (a.put o.dst v') w') : wpList P ops Q (o :: rest) a w := by
  subst hn
  have hL0 := hL
  obtain ⟨la', cap, cs, hv, hlc, ⟨hcm, hll⟩, hrow, hr⟩ := hL
  injection hv with e1 e2 e3
  subst e1 e3
  match hla : la, l, hrow, hx with
  | none, l, hrow, hx =>
    rcases hrow with h0 | ⟨b, off, hb, _⟩
    · rw [h0] at hx
      refine wpList_append_nil hgd s x t ho e i ht hi c hs hx (h _ _ ⟨none, 0, by rw [h0]⟩ ?_ (Below.refl _ _))
      obtain rfl : l = [] := List.eq_nil_of_length_eq_zero h0
      exact ⟨none, 0, fun _ => [], rfl, Nat.le_refl _, by simp, .inl rfl, fun i x hx => by simp at hx⟩
    · cases hb
  | some ad, l, hrow, hx =>
    obtain ⟨css, hcl, hcr⟩ : ∃ css : List (List Value), css.length = l.length ∧ ∀ i, i < l.length → css[i]? = some (cs i) := ⟨(List.range l.length).map cs, by simp, fun i hi => by simp [hi]⟩
    have hrd : ∀ (i : Nat) (x : PVal) (ys : List Value), l[i]? = some x → css[i]? = some ys → Rd w (Now w) x ys := fun i x ys hx hy => by
      have hi : i < l.length := (List.getElem?_eq_some_iff.1 hx).1
      rw [hcr i hi] at hy
      have := Option.some.inj hy
      subst this
      exact hr i x hx
    have h5 : ∀ ys ∈ css, ys.length = 5 := by
      intro ys hys
      obtain ⟨i, hi⟩ := List.getElem?_of_mem hys
      have hil : i < l.length := by rw [← hcl]; exact (List.getElem?_eq_some_iff.1 hi).1
      exact (hrd i _ ys (List.getElem?_eq_getElem hil) hi).len
    have hfl : css.flatten.length = l.length * 5 := by
      rw [List.length_flatten, ← hcl]
      clear hcl hcr hrd
      induction css with
      | nil => rfl
      | cons c r ih => simp only [List.map_cons, List.sum_cons, List.length_cons]; rw [ih (fun x hx => h5 x (by simp [hx])), h5 c (by simp)]; omega
    refine wpList_append_own w hgd s x t ho w.heap.size e i z 5 80 ht hi hz hsize hby hzs (by omega) (.slice none 0 0) 0 [] hs (World.ownsRow_nil _ _ _ _) ad l.length c css.flatten hx hfl (fun j u hu => ?_) (fun u hu => ?_) (by unfold maxLen; omega) (by omega) (Nat.le_refl _) ?_
    · obtain ⟨i, q, ys, h1, h2, h3⟩ := flat_inv 5 (by decide) css h5 j u hu
      have hil : i < l.length := by rw [← hcl]; exact (List.getElem?_eq_some_iff.1 h1).1
      rcases hrow with h0 | ⟨b, off, hb, _, hc⟩
      · omega
      · obtain rfl : ad = ⟨b, off, none⟩ := Option.some.inj hb
        rw [hcr i hil] at h1
        have := Option.some.inj h1
        subst this
        have := hc i hil q u h2
        rw [h3]
        rw [show off + i * 5 + q = off + (i * 5 + q) by omega] at this
        unfold Addr.add
        split
        · rename_i h00; rw [h00] at this; exact this
        · exact this
    · obtain ⟨ys, hys, hu⟩ := List.mem_flatten.1 hu
      obtain ⟨i, hi⟩ := List.getElem?_of_mem hys
      have hil : i < l.length := by rw [← hcl]; exact (List.getElem?_eq_some_iff.1 hi).1
      exact (hrd i _ ys (List.getElem?_eq_getElem hil) hi).one u hu
    · intro v' w' hown hg _
      have hb : Below w.heap.size w w' := grown_below (by simpa [Value.ownBlock] using hg)
      rw [Nat.zero_add, List.nil_append] at hown
      have hO : OwnL w' (Now w) w.heap.size e l v' := ⟨css, hcl, hown, fun b hb' e => by
        have := (hown.lt b e).1
        have : b < w.heap.size := hb'
        omega, fun i x ys hx hy => (hrd i x ys hx hy).keep (fun _ h => h) (fun b hb' => hb.block b hb')⟩
      refine h v' w' ?_ (hO.read (fun b hb' => Nat.lt_of_lt_of_le hb' hb.size) (fun b hb' => hO.lt b hb') hll) hb
      obtain ⟨oa, oc, rfl, _⟩ := hO.form
      exact ⟨oa, oc, rfl⟩

set_option maxRecDepth 100000 in
theorem rparts_calls (V : PVal) (w : World) (cs : List Value) (h : Rd w (Now w) V cs) :
    Calls Tryd.prog 96 #[.agg cs.toArray] w fun e w' => ∃ la cap, e = .returned (.slice la V.parts.length cap) ∧ RdL w' (Now w') V.parts (.slice la V.parts.length cap) ∧ Below w.heap.size w w' := by
  obtain ⟨k, n, s, l, fn, fv⟩ := V
  have h0 := hid h
  obtain ⟨la, lc, fa, fc, rfl, hk, hn, hs, hlc, hlm, hfc, hfm, hL, hF⟩ := h.inv
  obtain ⟨i0, hi, hz0, hz1, hz2⟩ := info_parts info52
  by_cases h5 : k = 5
  · subst h5
    have hn0 : Hid (PVal.parts (.mk 5 n s l fn fv) = l) := rfl
    have hL := hid (hL.later (below_new w (.cells #[.int .i64 5, .int .i64 n, .string s, .slice la l.length lc, .slice fa fv.length fc] 25)))
    go_enter Tryd.func96, Tryd.ntmps96
    go_wp2_with (first
      | (at_builtin; (refine wpList_append_list _ rfl _ _ 22 rfl 25 i0 _ Tryd.underlying22 hi hz0 hz1 hz2 rfl l la l.length lc rfl rfl rfl hL.out ?_); rintro v' w2 ⟨la', c', rfl⟩ hr2 hb2))
    go_ret
    rw [hn0.out]
    exact ⟨la', c', rfl, hr2, (below_new _ _).step hb2⟩
  by_cases h6 : k = 6
  · subst h6
    clear h5
    have hn0 : Hid (PVal.parts (.mk 6 n s l fn fv) = fv) := rfl
    have hfe := hid hF.1
    go_enter Tryd.func96, Tryd.ntmps96
    go_wp2_with fail
    go_loopg [3, 4] fv.length (fun g o i wr => ∃ j : Nat, g + j = fv.length ∧ i = .int .i64 j ∧ Below (w.alloc (.cells #[.int .i64 6, .int .i64 n, .string s, .slice la l.length lc, .slice fa fv.length fc] 25)).heap.size (w.alloc (.cells #[.int .i64 6, .int .i64 n, .string s, .slice la l.length lc, .slice fa fv.length fc] 25)) wr ∧ OwnL wr (· < w.heap.size) (w.heap.size + 1) 25 (fv.take j) o)
    case atStart => exact ⟨0, by omega, rfl, Below.refl _ _, OwnL.nil _ _ _ _⟩
    case round =>
      obtain ⟨j, hj, rfl, hbr0, hown⟩ := hrel
      have hbr : Below w.heap.size w wr := (below_new _ _).step hbr0
      have c4b := box_cell (j := 4) hbr0 rfl
      have hbs : w.heap.size + 1 ≤ wr.heap.size := by have := hbr0.size; simpa using this
      by_cases hlt : j < fv.length
      · obtain ⟨x, hx⟩ : ∃ x, fv[j]? = some x := ⟨_, List.getElem?_eq_getElem hlt⟩
        obtain ⟨nm, hnm⟩ : ∃ nm, fn[j]? = some nm := ⟨_, List.getElem?_eq_getElem (by rw [hfe.out]; exact hlt)⟩
        obtain ⟨b, off, xs, rfl, hxS, hxc, hxr, hnz⟩ := hF.at_ hnm hx
        obtain ⟨xk, xn, xsx, xl, xfn, xfv⟩ := x
        obtain ⟨xla, xlc, xfa, xfc, rfl, _⟩ := hxr.inv
        obtain ⟨c0, c1, c2, c3, c4, c5⟩ := six (cells_later hbr hxS hxc)
        clear hxc
        have hl : Hid ((fv.take j).length = j) := by show _ = _; simp; omega
        have hbs := hid hbs
        obtain ⟨oa, oc, hof, hoc⟩ := hown.form
        rw [hl.out] at hof hoc
        subst hof
        go_wp2_with (first
          | (at_builtin; (refine wpList_append_val _ rfl _ _ 22 rfl (w.heap.size + 1) 25 i0 _ Tryd.underlying22 hi hz0 hz1 hz2 rfl (· < w.heap.size) (fv.take j) _ j hl.out rfl (hown.keep (below_new _ _) (fun b hb => Nat.lt_of_lt_of_le hb hbr.size)) ⟨wr.heap.size, 0, none⟩ 1 [.int .i64 xk, .int .i64 xn, .string xsx, .slice xla xl.length xlc, .slice xfa xfv.length xfc] (.mk xk xn xsx xl xfn xfv) rfl (cells_new _ _ (by simp) _ _) (hxr.keep (fun _ h => h) (fun b hb => (hbr.step (below_new _ _)).block b hb)) (by omega) (fun b h => Nat.lt_succ_of_lt h) (Nat.le_trans hbs.out (below_new _ _).size) ?_); intro v' w2 hown2 hg2 hlow))
        go_roundg (fv.length - (j + 1))
        case measure => omega
        case rel => exact ⟨j + 1, by omega, by go_num, by simpa using (hbr0.trans (by simpa using (below_new wr (.cells #[.int .i64 xk, .int .i64 xn, .string xsx, .slice xla xl.length xlc, .slice xfa xfv.length xfc] 25)).mono hbs.out)).trans ⟨hg2.os, hg2.tape, hg2.output, hg2.size, by simpa using hlow⟩, by rw [take_succ_of hx]; exact hown2⟩
      · go_wp2_with fail
        obtain rfl : j = fv.length := by omega
        go_ret
        rw [List.take_length] at hown
        obtain ⟨oa, oc, rfl, hoc⟩ := hown.form
        rw [hn0.out]
        refine ⟨oa, oc, rfl, hown.read (fun b hb => Nat.lt_of_lt_of_le hb hbr.size) ?_ (by omega), hbr⟩
        exact fun b hb => hown.lt b hb
  · have b5 : (k == 5) = false := by simpa using h5
    have b6 : (k == 6) = false := by simpa using h6
    go_enter Tryd.func96, Tryd.ntmps96
    go_wp2_with fail
    go_ret
    have e0 : PVal.parts (.mk k n s l fn fv) = [] := by simp [PVal.parts, h5, h6]
    rw [e0]
    exact ⟨none, 0, rfl, ⟨none, 0, fun _ => [], rfl, Nat.le_refl _, by simp, .inl rfl, fun i x hx => by simp at hx⟩, below_new _ _⟩
theorem rdepth_big : ∀ (V : PVal) (w : World) (cs : List Value), V.nodes ≤ 1000000000000 → Rd w (Now w) V cs →
    Calls Tryd.prog 64 #[.agg cs.toArray] w fun e w' => e = .returned (.int .i64 V.depth) ∧ Below w.heap.size w w' := by
  intro V
  induction hN : V.nodes using Nat.strongRecOn generalizing V with
  | _ N ih =>
  subst hN
  intro w cs hN hV
  obtain ⟨k, n, s, l, fn, fv⟩ := V
  obtain ⟨la, lc, fa, fc, rfl, hk, hn, hs, hlc, hlm, hfc, hfm, hL, hF⟩ := hV.inv
  by_cases h56 : k = 5 ∨ k = 6
  · have hd : Hid (PVal.depth (.mk k n s l fn fv) = depthL (PVal.parts (.mk k n s l fn fv)) + 1) := depth_some h56
    have hp := rparts_calls (.mk k n s l fn fv) _ _ (hV.later (below_new w (.cells #[.int .i64 k, .int .i64 n, .string s, .slice la l.length lc, .slice fa fv.length fc] 25)))
    have hpn := nodes_parts (.mk k n s l fn fv)
    generalize PVal.parts (.mk k n s l fn fv) = ps at *
    have hpl := nodesL_length ps
    rcases h56 with rfl | rfl
    all_goals
      go_enter Tryd.func64, Tryd.ntmps64
      go_wp2_with fail
      refine hp.mono ?_
      rintro e w1 ⟨pa, pc, rfl, hps, hb1⟩
      have hb0 : Below w.heap.size w w1 := (below_new w _).step hb1
      go_wp2_with fail
      go_loopg [3, 5] ps.length (fun g m i wr => ∃ j : Nat, g + j = ps.length ∧ i = .int .i64 j ∧ m = .int .i64 (depthL (ps.take j)) ∧ Below w1.heap.size w1 wr)
      case atStart => exact ⟨0, by omega, rfl, rfl, Below.refl _ _⟩
      case round =>
        obtain ⟨j, hj, rfl, rfl, hbr⟩ := hrel
        have hpr := hps.later hbr
        have hdt := Nat.le_trans (depthL_take_le ps j) (depthL_le_nodesL ps (fun x _ => depth_le_nodes x))
        by_cases hlt : j < ps.length
        · obtain ⟨x, hx⟩ : ∃ x, ps[j]? = some x := ⟨_, List.getElem?_eq_getElem hlt⟩
          obtain ⟨b, off, xs, rfl, hxS, hxc, hxr⟩ := hpr.at_ hx
          have hxn := nodes_mem (List.mem_of_getElem? hx)
          have hcx := ih x.nodes (by omega) x rfl
          have hdx := depth_le_nodes x
          have hsx := hid (depthL_succ hx)
          obtain ⟨xk, xn, xsx, xl, xfn, xfv⟩ := x
          obtain ⟨xla, xlc, xfa, xfc, rfl, _⟩ := hxr.inv
          obtain ⟨c0, c1, c2, c3, c4⟩ := five hxc
          clear hxc
          go_wp2_with fail
          refine (hcx _ _ (by omega) hxr).mono ?_
          rintro e w2 ⟨rfl, hb2⟩
          go_wp2_with fail
          all_goals
            go_roundg (ps.length - (j + 1))
            case measure => omega
            case rel => exact ⟨j + 1, by omega, by go_num, by rw [hsx.out]; go_num, hbr.step hb2⟩
        · go_wp2_with fail
          obtain rfl : j = ps.length := by omega
          rw [List.take_length]
          go_ret
          exact ⟨by rw [hd.out]; go_num, hb0.step hbr⟩
  · have h5 : ¬ k = 5 := fun h => h56 (.inl h)
    have h6 : ¬ k = 6 := fun h => h56 (.inr h)
    have b5 : (k != 5) = true := by simp [h5]
    have b6 : (k != 6) = true := by simp [h6]
    go_enter Tryd.func64, Tryd.ntmps64
    go_wp2_with fail
    go_ret
    exact ⟨by simp [PVal.depth, h5, h6], below_new _ _⟩

theorem rdepth_calls (V : PVal) (w : World) (cs : List Value) (hN : V.nodes ≤ 20000) (hV : Rd w (Now w) V cs) :
    Calls Tryd.prog 64 #[.agg cs.toArray] w fun e w' => e = .returned (.int .i64 V.depth) ∧ Below w.heap.size w w' := rdepth_big V w cs (by omega) hV
end Go.Proofs.YtihcegakghmdfaaDoor

namespace Go.Proofs.YtihcegakghmdfaaDoor
open Go.RowKit Go.Proofs

theorem info_u8 : (Tryd.prog.info? 5).map (fun i => (i.zero, i.size, i.bytes)) = some (some (.int .u8 0), 1, 1) := by kernel_rfl
theorem byte8 : ∃ i, Byte8 Tryd.prog 26 5 i := by
  obtain ⟨i, hi, hz0, hz1, hz2⟩ := info_parts info_u8
  exact ⟨i, Tryd.underlying26, hi, hz0, hz1, hz2⟩

/-- New memory, and a slice of these bytes in it. -/
def Made (w w' : World) (l : List UInt8) (v : Value) : Prop := ∃ g cap, v = .slice (some ⟨g, 0, none⟩) l.length cap ∧ Buf w.heap.size 5 w w' l v

theorem Made.below {w w' : World} {l : List UInt8} {v : Value} (h : Made w w' l v) : Below w.heap.size w w' := by
  obtain ⟨_, _, _, hb⟩ := h
  exact hb.below
theorem Made.src {w w' : World} {l : List UInt8} {g n c : Nat} (h : Made w w' l (.slice (some ⟨g, 0, none⟩) n c)) : n = l.length ∧ Src w' g l := by
  obtain ⟨g', c', hv, hb⟩ := h
  injection hv with h1 h2 h3
  exact ⟨h2, hb.src⟩
theorem made_of {w wr : World} {o : Obj} {l : List UInt8} {v : Value} (h : Buf (w.alloc o).heap.size 5 (w.alloc o) wr l v) (hl : l ≠ []) : Made w wr l v := by
  have hb := h.base (B' := w.heap.size) (W0' := w) (by simp) (below_new w o)
  obtain ⟨g, cap, hv, _⟩ := h.form hl
  exact ⟨g, cap, hv, hb⟩
end Go.Proofs.YtihcegakghmdfaaDoor

namespace Go.Proofs.YtihcegakghmdfaaDoor
open Go.RowKit Go.Proofs

/-- As Q; by a goto: what J says of its label. -/
def jumps (J : Nat → Act → World → Prop) (Q : Exit → Act → World → Prop) : Exit → Act → World → Prop
  | .goto l, a, w => J l a w
  | e, a, w => Q e a w
@[go_sem] theorem jumps_ret (J : Nat → Act → World → Prop) (Q : Exit → Act → World → Prop) (a : Act) (w : World) : jumps J Q .ret a w = Q .ret a w := rfl
@[go_sem] theorem jumps_panic (J : Nat → Act → World → Prop) (Q : Exit → Act → World → Prop) (c : List PanicEntry) (a : Act) (w : World) : jumps J Q (.panic c) a w = Q (.panic c) a w := rfl
@[go_sem] theorem jumps_normal (J : Nat → Act → World → Prop) (Q : Exit → Act → World → Prop) (a : Act) (w : World) : jumps J Q .normal a w = Q .normal a w := rfl

section
variable {P : Program} {a : Act} {w : World} {Q : Exit → Act → World → Prop}
/-- A scope in which the run jumps from label to label: what holds at each jump, and a ghost that every jump lowers. -/
theorem wp_scope_labels {c : Code} (J : Nat → Nat → Act → World → Prop)
    (first : c.wp P (jumps (fun l a w => ∃ g, J g l a w) Q) a w)
    (pass : ∀ g l a w, J g l a w → ∃ rest, findLabel c l = some rest ∧ rest.wp P (jumps (fun l' a' w' => ∃ g', g' < g ∧ J g' l' a' w') Q) a w) : (Code.scope c).wp P Q a w := by
  intro b k cs
  have key : ∀ g l a w, J g l a w → ∃ e a' w', Q e a' w' ∧ ∃ rest, findLabel c l = some rest ∧ Arrives P (lone (b.at a (.code rest :: .inScope c :: k)) cs w) b k cs e a' w' := by
    intro g
    induction g using Nat.strongRecOn with
    | _ g ih =>
      intro l a w hJ
      obtain ⟨rest, hf, hw⟩ := pass g l a w hJ
      obtain ⟨e, a₁, w₁, hq, harr⟩ := hw b (.inScope c :: k) cs
      cases e with
      | normal => exact ⟨.normal, a₁, w₁, hq, rest, hf, Steps.trans harr (.one step_inScope)⟩
      | exit id => exact ⟨.exit id, a₁, w₁, hq, rest, hf, fun k' hk => harr k' (by simp [exitTo, hk])⟩
      | goto l' =>
        obtain ⟨g', hlt, hJ'⟩ := hq
        obtain ⟨e₂, a₂, w₂, hq₂, rest', hf', harr₂⟩ := ih g' hlt l' a₁ w₁ hJ'
        exact ⟨e₂, a₂, w₂, hq₂, rest, hf, .of_steps (harr _ (by simp [gotoIn, hf'])) harr₂⟩
      | ret => exact ⟨_, a₁, w₁, hq, rest, hf, harr⟩
      | panic ch => exact ⟨_, a₁, w₁, hq, rest, hf, harr⟩
      | outgrown => exact ⟨_, a₁, w₁, hq, rest, hf, harr⟩
  obtain ⟨e, a₁, w₁, hq, harr⟩ := first b (.inScope c :: k) cs
  cases e with
  | normal => exact ⟨.normal, a₁, w₁, hq, .head step_scope (Steps.trans harr (.one step_inScope))⟩
  | exit id => exact ⟨.exit id, a₁, w₁, hq, fun k' hk => .head step_scope (harr k' (by simp [exitTo, hk]))⟩
  | goto l' =>
    obtain ⟨g, hJ'⟩ := hq
    obtain ⟨e₂, a₂, w₂, hq₂, rest, hf, harr₂⟩ := key g l' a₁ w₁ hJ'
    exact ⟨e₂, a₂, w₂, hq₂, .of_steps (.head step_scope (harr _ (by simp [gotoIn, hf]))) harr₂⟩
  | ret => exact ⟨_, a₁, w₁, hq, .of_steps (.one step_scope) harr⟩
  | panic ch => exact ⟨_, a₁, w₁, hq, .of_steps (.one step_scope) harr⟩
  | outgrown => exact ⟨_, a₁, w₁, hq, .of_steps (.one step_scope) harr⟩

theorem pass_use {c : Code} {l : Nat} {rest' : Code} (hf' : findLabel c l = some (Code.skip.seq rest')) (h : ∃ rest, findLabel c l = some (Code.skip.seq rest) ∧ rest.wp P Q a w) : rest'.wp P Q a w := by
  obtain ⟨rest, hf, hw⟩ := h
  rw [hf] at hf'
  cases hf'
  exact hw
theorem wp_scope_pass {c : Code} (J : Nat → Nat → Act → World → Prop)
    (pass : ∀ g l a w, J g l a w → ∃ rest, findLabel c l = some (Code.skip.seq rest) ∧ rest.wp P (jumps (fun l' a' w' => ∃ g', g' < g ∧ J g' l' a' w') Q) a w)
    (first : (∀ g l a w, J g l a w → ∃ rest, findLabel c l = some (Code.skip.seq rest) ∧ rest.wp P (jumps (fun l a w => ∃ g, J g l a w) Q) a w) → c.wp P (jumps (fun l a w => ∃ g, J g l a w) Q) a w) : (Code.scope c).wp P Q a w :=
  wp_scope_labels J (first fun g l a w h => by
    obtain ⟨rest, hf, hw⟩ := pass g l a w h
    refine ⟨rest, hf, Code.wp_mono (fun e a w h => ?_) hw⟩
    cases e with
    | goto l' => obtain ⟨g', _, h⟩ := h; exact ⟨g', h⟩
    | _ => exact h) (fun g l a w h => let ⟨rest, hf, hw⟩ := pass g l a w h; ⟨_, hf, wp_seq (wp_skip hw)⟩)
/-- The same; where a label's code runs into a later label. -/
theorem wp_scope_falls {c : Code} (J : Nat → Nat → Act → World → Prop)
    (pass : ∀ g l a w, J g l a w → (∀ g' l' a' w', g' < g → J g' l' a' w' → ∃ rest, findLabel c l' = some (Code.skip.seq rest) ∧ rest.wp P (jumps (fun l a w => ∃ k, k < g ∧ J k l a w) Q) a' w') →
      ∃ rest, findLabel c l = some (Code.skip.seq rest) ∧ rest.wp P (jumps (fun l' a' w' => ∃ g', g' < g ∧ J g' l' a' w') Q) a w)
    (first : (∀ g l a w, J g l a w → ∃ rest, findLabel c l = some (Code.skip.seq rest) ∧ rest.wp P (jumps (fun l a w => ∃ g, J g l a w) Q) a w) → c.wp P (jumps (fun l a w => ∃ g, J g l a w) Q) a w) : (Code.scope c).wp P Q a w :=
  wp_scope_pass J (by
    intro g
    induction g using Nat.strongRecOn with
    | _ g ih =>
      intro l a w h
      refine pass g l a w h fun g' l' a' w' hlt h' => ?_
      obtain ⟨rest, hf, hw⟩ := ih g' hlt l' a' w' h'
      refine ⟨rest, hf, Code.wp_mono (fun e a w h => ?_) hw⟩
      cases e with
      | goto l' => obtain ⟨k, hk, h⟩ := h; exact ⟨k, by omega, h⟩
      | _ => exact h) first
theorem conv_buf {B t e u : Nat} {W0 w : World} {l : List UInt8} {v : Value} (ht : P.underlying t = some (.slice e)) (he : P.underlying e = some (.int .u8)) (hu : P.underlying u = some .string) (h : Buf B e W0 w l v) :
    (convert t u v).run P w = .ok (.string ⟨l.toArray⟩) w := by
  by_cases hl : l = []
  · subst hl
    rcases h.1.2 with ⟨rfl, _⟩ | ⟨g, cap, cur, fz, rfl, _⟩
    · exact Lib.run_convert_nil_bytes w t u e 0 ht he hu
    · exact run_convert_bytes_back w t u e ⟨g, 0, none⟩ cap [] ht he hu (fun j hj => by simp at hj)
  · obtain ⟨g, cap, rfl, _⟩ := h.form hl
    exact run_convert_bytes_back w t u e ⟨g, 0, none⟩ cap l ht he hu (fun j hj => h.src j _ (by simp [bcells, List.getElem?_eq_getElem hj]))
end
end Go.Proofs.YtihcegakghmdfaaDoor

namespace Go.Proofs.YtihcegakghmdfaaDoor
open Go.RowKit Go.Proofs

/-- A world in which, of what was there, block g alone may have turned. -/
structure Save (g : Nat) (w w' : World) : Prop where
  os : w'.os = w.os
  tape : w'.tape = w.tape
  output : w'.output = w.output
  size : w.heap.size ≤ w'.heap.size
  block : ∀ k, k < w.heap.size → k ≠ g → w'.heap[k]? = w.heap[k]?
theorem Save.refl (g : Nat) (w : World) : Save g w w := ⟨rfl, rfl, rfl, Nat.le_refl _, fun _ _ _ => rfl⟩
theorem Save.trans {g : Nat} {a b c : World} (h : Save g a b) (k : Save g b c) : Save g a c :=
  ⟨k.os.trans h.os, k.tape.trans h.tape, k.output.trans h.output, Nat.le_trans h.size k.size, fun i hi hg => (k.block i (Nat.lt_of_lt_of_le hi h.size) hg).trans (h.block i hi hg)⟩
theorem Save.of_below {g : Nat} {w w' : World} (h : Below w.heap.size w w') : Save g w w' := ⟨h.os, h.tape, h.output, h.size, fun k hk _ => h.block k hk⟩
theorem Save.below {g B : Nat} {w w' : World} (h : Save g w w') (hB : B ≤ g) (hw : g < w.heap.size) : Below B w w' := ⟨h.os, h.tape, h.output, h.size, fun k hk => h.block k (by omega) (by omega)⟩
theorem Save.set (w : World) (g j : Nat) (u : Value) : Save g w (w.setCell ⟨g, j, none⟩ u) := ⟨rfl, rfl, rfl, by simp [World.setCell], fun k _ hk => Below.heap_setCell _ _ _ _ hk⟩
end Go.Proofs.YtihcegakghmdfaaDoor

namespace Go.Proofs.YtihcegakghmdfaaDoor
open Go.RowKit
section
variable {P : Program} {ops : Array Oper} {md : Region.Mode} {C : World → Prop}

/-- The head's operations, in whatever order; L of what is behind them. -/
def anyHead (P : Program) (md : Region.Mode) (ops : Array Oper) (C : World → Prop) (n : Nat) (L : Array Bool → Act → Prop) : Nat → Array Bool → Act → Prop
  | 0, listed, a => L listed a
  | f + 1, listed, a => Region.ready md ops listed ≠ [] ∧ ∀ i ∈ Region.ready md ops listed, i < n ∧ qOp P ops C i (anyHead P md ops C n L f (listed.setIfInBounds i true)) a

theorem anyHead_any {n g : Nat} {L : Array Bool → Act → Prop} {Q : Exit → Act → World → Prop} (hL : ∀ listed a w, C w → L listed a → wpAny P md ops Q g listed a w) :
    ∀ (f : Nat) (listed : Array Bool) (a : Act) (w : World), C w → anyHead P md ops C n L f listed a → wpAny P md ops Q (f + g) listed a w
  | 0, listed, a, w, hw, h => by rw [Nat.zero_add]; exact hL _ _ _ hw h
  | f + 1, listed, a, w, hw, h => by
    rw [show f + 1 + g = (f + g) + 1 by omega]
    exact ⟨fun h0 => absurd h0 h.1, fun i hi => wpOp_of_qOp hw (fun a' w' hw' h' => anyHead_any hL f _ a' w' hw' h') (h.2 i hi).2⟩

theorem anyHead_first {n i : Nat} {oi : Oper} {v : Value} {L : Array Bool → Act → Prop} (hi : ops[i]? = some oi) (hsel : ∀ (j : Nat) (o : Oper) cs b, ops[j]? = some o → o.op ≠ .select cs b)
    (hs : Region.sinkB md ops n = true) (hc : Region.chainB md ops n = true) (hn : n < ops.size) (hin : i < n) (hdone : ∀ listed a, L listed a → ∀ j ∈ Region.ready md ops listed, n ≤ j) (f : Nat) :
    ∀ (listed : Array Bool) (a : Act), HeadInv md ops n listed →
      (∀ j oj, ops[j]? = some oj → j ≠ i → listed.getD j true = false → (∀ e ∈ oj.after, Region.binds md e = true → e.on ≠ i) → oi.apart ops oj = true) →
      i ∈ Region.ready md ops listed → YieldsIn P ops C oi v a → anyHead P md ops C n L f (listed.setIfInBounds i true) (a.put oi.dst v) → anyHead P md ops C n L (f + 1) listed a := by
  have below_n : ∀ (listed : Array Bool), HeadInv md ops n listed → i ∈ Region.ready md ops listed → ∀ j ∈ Region.ready md ops listed, j < n := fun listed inv hr j hj =>
    (Nat.lt_or_ge j n).resolve_right fun h => absurd hj (tail_waits hs hc hn inv _ i rfl hin (mem_ready.1 hr).1 j h)
  induction f with
  | zero =>
    intro listed a inv _ hr hy H
    refine ⟨fun h => (by rw [h] at hr; cases hr), fun j hj => ⟨below_n listed inv hr j hj, ?_⟩⟩
    by_cases hji : j = i
    · subst hji; exact hy.qOp hi H
    · have h1 := hdone _ _ H j (ready_mono hj hji)
      have h2 := below_n listed inv hr j hj
      omega
  | succ f ih =>
    intro listed a inv hfree hr hy H
    refine ⟨fun h => (by rw [h] at hr; cases hr), fun j hj => ⟨below_n listed inv hr j hj, ?_⟩⟩
    by_cases hji : j = i
    · subst hji; exact hy.qOp hi H
    · obtain ⟨hjun, oj, hoj, hall⟩ := mem_ready.1 hj
      have hnot : ∀ e ∈ oj.after, Region.binds md e = true → e.on ≠ i := fun e he hb heq => by
        have h3 := hall e he hb
        rw [heq, getD_both (mem_ready.1 hr).1] at h3
        cases h3
      refine qOp_mono (fun a' h3 => ?_) (qOp_put hoj (hfree j oj hoj hji hjun hnot) (fun cs b => hsel i oi cs b hi) (fun cs b => hsel j oj cs b hoj) hy (H.2 j (ready_mono hj hji)).2)
      refine ih _ a' (inv.set hj (below_n listed inv hr j hj)) (fun k ok hk hki hun hno => hfree k ok hk hki ?_ hno) (ready_mono hr (Ne.symm hji)) h3.1 ?_
      · by_cases hjk : j = k
        · subst hjk; exact hjun
        · rwa [getD_set_ne true hjk] at hun
      · rw [Array.setIfInBounds_comm _ _ hji]
        exact h3.2

theorem anyHead_lex {n g : Nat} {Lq : Act → Prop} (hsel : Region.noSelect ops = true) (hs : Region.sinkB md ops n = true) (hc : Region.chainB md ops n = true) (hn : n < ops.size) :
    ∀ (l : List Oper) (k : Nat) (listed : Array Bool) (a : Act), (∀ j, j < l.length → l[j]? = ops[k + j]?) → k + l.length = n → HeadInv md ops n listed →
    Region.lexHead md ops g l.length k listed = true → wpQuiet P ops C Lq l a → anyHead P md ops C n (fun listed' a' => Region.seqB md ops g n listed' = true ∧ Lq a') l.length listed a
  | [], k, listed, a, _, hk, _, hB, h => by
    obtain rfl : k = n := by simpa using hk
    exact ⟨by simpa [Region.lexHead] using hB, h⟩
  | o :: l, k, listed, a, hl, hk, inv, hB, h => by
    have h0 : ops[k]? = some o := by simpa using (hl 0 (by simp)).symm
    simp only [List.length_cons, Region.lexHead, Bool.and_eq_true] at hB
    have hkn : k < n := by simp only [List.length_cons] at hk; omega
    have hr' : k ∈ Region.ready md ops listed := by simpa using hB.1.1
    have hst : qOp P ops C k (wpQuiet P ops C Lq l) a := by unfold qOp; simp only [h0]; exact h
    obtain ⟨v, hy, hK⟩ := yieldsIn_of_qOp h0 hst
    refine anyHead_first h0 (Region.noSelect_spec hsel) hs hc hn hkn (fun _ _ hL => seqB_ready hL.1) l.length listed a inv (Region.free_spec h0 hB.1.2) hr' hy ?_
    refine anyHead_lex hsel hs hc hn l (k + 1) _ _ (fun j hj => ?_) (by simp only [List.length_cons] at hk; omega) (inv.set hr' hkn) hB.2 hK
    have := hl (j + 1) (by simp; omega)
    simpa [Nat.add_assoc, Nat.add_comm 1 j] using this

/-- The head in the order of the text, quiet in the class; the tail in every world of the class. -/
theorem wp_quiet_tail {id : Nat} {Q : Exit → Act → World → Prop} {a : Act} {w : World} {l : List Oper} (n : Nat) (hm : P.follows .mixedOrders = true) (hB : Region.lexTailB .any l.toArray n = true) (hC : C { w with drawn := w.drawn + 1 })
    (h : wpQuiet P l.toArray C (fun a' => ∀ w', C w' → wpList P l.toArray Q (l.drop n) a' w') (l.take n) a) : (Code.region id l.toArray true).wp P Q a w := by
  simp only [Region.lexTailB, Bool.and_eq_true, decide_eq_true_eq] at hB
  obtain ⟨⟨⟨⟨hsel, hn⟩, hs⟩, hc⟩, hlex⟩ := hB
  have htl : (l.take n).length = n := by simp at hn ⊢; omega
  have hdl : (l.drop n).length = l.toArray.size - n := by simp
  have inv0 : HeadInv .any l.toArray n (Array.replicate l.toArray.size false) :=
    ⟨by simp, fun j oj _ hl => (by rw [getD_replicate_false] at hl; cases hl), fun t _ ht => getD_in (by simpa using ht) (getD_replicate_false _ _)⟩
  have H := anyHead_lex (md := .any) (g := l.toArray.size - n) hsel hs hc hn (l.take n) 0 _ a (fun j hj => by
    rw [htl] at hj; simp [hj]) (by simpa using htl) inv0 (by rw [htl]; exact hlex) h
  refine wp_region_any hm ?_
  have K := anyHead_any (Q := Q) (g := l.toArray.size - n) (fun listed a' w' hw' hL => by
    have := wpAny_of_seq (md := .any) (Q' := Q) (l.drop n) n listed a' w' (fun j => by simp [List.getElem?_drop]) (by rw [hdl]; exact hL.1) (hL.2 w' hw')
    rwa [hdl] at this) _ _ _ _ hC H
  rwa [htl, show n + (l.toArray.size - n) = l.toArray.size by omega] at K
end

/-- A later world: of what was there nothing has turned. -/
structure Later (w : World) where
  x : World
  h : Below w.heap.size w x
instance {w : World} : Inhabited (Later w) := ⟨⟨w, Below.refl _ w⟩⟩

theorem Later.cell {w : World} {a : Addr} {v : Value} (h : w.cell? a = some v) (p : Later w) : p.x.cell? a = some v := (p.h.cell (World.block_lt_of_cell? w a h)).trans h
theorem later_calls {P : Program} {f : FuncId} {args : Array Value} {w : World} {v : Value} (p : Later w)
    (h : Calls P f args p.x fun e w' => e = .returned v ∧ Below p.x.heap.size p.x w') : Calls P f args p.x fun e w'' => e = .returned v ∧ ∃ q : Later w, w'' = q.x :=
  h.mono fun _ w' ⟨he, hb⟩ => ⟨he, ⟨⟨w', p.h.trans (hb.mono p.h.size)⟩, rfl⟩⟩
theorem later_same {P : Program} {f : FuncId} {args : Array Value} {w : World} {v : Value} (p : Later w)
    (h : Calls P f args p.x fun e w' => e = .returned v ∧ p.x = w') : Calls P f args p.x fun e w'' => e = .returned v ∧ ∃ q : Later w, w'' = q.x :=
  h.mono fun _ _ ⟨he, hb⟩ => ⟨he, ⟨p, hb.symm⟩⟩
theorem wp_later {P : Program} {id : Nat} {Q : Exit → Act → World → Prop} {a : Act} {w : World} {l : List Oper} (hm : P.follows .mixedOrders = true) (hB : Region.lexB .any l.toArray = true)
    (h : wpQuiet P l.toArray (fun w' => ∃ p : Later w, w' = p.x) (fun a' => ∀ w', (∃ p : Later w, w' = p.x) → Q .normal a' w') l a) : (Code.region id l.toArray true).wp P Q a w :=
  wp_region_quiet (C := fun w' => ∃ p : Later w, w' = p.x) hm hB ⟨⟨_, (Below.refl _ w).drew⟩, rfl⟩ (by simpa using h)
theorem wp_later_tail {P : Program} {id : Nat} {Q : Exit → Act → World → Prop} {a : Act} {w : World} {l : List Oper} (n : Nat) (hm : P.follows .mixedOrders = true) (hB : Region.lexTailB .any l.toArray n = true)
    (h : wpQuiet P l.toArray (fun w' => ∃ p : Later w, w' = p.x) (fun a' => ∀ w', (∃ p : Later w, w' = p.x) → wpList P l.toArray Q (l.drop n) a' w') (l.take n) a) : (Code.region id l.toArray true).wp P Q a w :=
  wp_quiet_tail n hm hB ⟨⟨_, (Below.refl _ w).drew⟩, rfl⟩ h
/-- Two boxes laid one behind the other: their cells, later. -/
theorem two_cells {w w' : World} {A B : Array Value} {t u : TypeId} (hb : Below ((w.alloc (.cells A t)).alloc (.cells B u)).heap.size ((w.alloc (.cells A t)).alloc (.cells B u)) w') :
    (∀ (j : Nat) (v : Value), A[j]? = some v → w'.cell? ⟨w.heap.size, j, none⟩ = some v) ∧ (∀ (j : Nat) (v : Value), B[j]? = some v → w'.cell? ⟨w.heap.size + 1, j, none⟩ = some v) := by
  constructor
  · intro j v h
    rw [hb.cell (p := ⟨w.heap.size, j, none⟩) (by simp; omega), World.cell?_alloc_lt _ _ _ (by simp)]
    exact (cell_of_row _ _ _ _ _ _ (heap_alloc_new w _)).trans h
  · intro j v h
    rw [hb.cell (p := ⟨w.heap.size + 1, j, none⟩) (by simp)]
    have := heap_alloc_new (w.alloc (.cells A t)) (.cells B u)
    rw [show (w.alloc (.cells A t)).heap.size = w.heap.size + 1 by simp] at this
    exact (cell_of_row _ _ _ _ _ _ this).trans h
end Go.Proofs.YtihcegakghmdfaaDoor
