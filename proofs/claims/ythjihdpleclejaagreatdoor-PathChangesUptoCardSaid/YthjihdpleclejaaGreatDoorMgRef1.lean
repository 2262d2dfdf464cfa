/-
  Walks: the reference's parts, Depth, Count.
  Worlds in which one old block may have turned. No condition.
  Walks: value.hash's bytes, byte, number, value; Hash.
  Walks: the reference's zig, Varint.
  Walks: the reference's Bytes.
-/
import Derived.Test.YthjihdpleclejaaGreatDoorMgVal1
import Derived.Laws.AppendOwnNone
import Derived.Test.YthjihdpleclejaaGreatDoorMgPlain
import Derived.Test.YthjihdpleclejaaGreatDoorMgVal12
import Derived.Lib.Zigzag
import Derived.Test.YthjihdpleclejaaGreatDoorMgQuiet
import Derived.Deep.RegionHeld3
namespace Go.Proofs.YthjihdpleclejaaGreatDoor
open Go.RowKit Go.Proofs
theorem flat_inv {α : Type} (m : Nat) (hm : 0 < m) : ∀ (css : List (List α)), (∀ cs ∈ css, cs.length = m) → ∀ (j : Nat) (u : α), css.flatten[j]? = some u → ∃ i r cs, css[i]? = some cs ∧ cs[r]? = some u ∧ j = i * m + r
 | [], _, j, u, h => by simp at h
 | c :: r, h, j, u, hu => by
  have hc : c.length = m := h c (by simp)
  rw [List.flatten_cons] at hu
  by_cases hj : j < m
  ·rw [List.getElem?_append_left (by omega)] at hu
   exact ⟨0, j, c, rfl, hu, by omega⟩
  ·rw [List.getElem?_append_right (by omega)] at hu
   obtain ⟨i, q, cs, h1, h2, h3⟩ := flat_inv m hm r (fun x hx => h x (by simp [hx])) _ _ hu
   exact ⟨i + 1, q, cs, by simpa using h1, h2, by rw [Nat.succ_mul]; omega⟩
theorem run_append_nil {P : Program} {w : World} (t ty e : TypeId) (i : TypeInfo) (ht : P.underlying t = some (.slice e)) (hi : P.info? e = some i) (c : Nat) :
  (Builtin.append_ #[t, t] ty #[.slice none 0 0, .slice none 0 c]).run P w = .ok (.slice none 0 0) w := by
 simp [Builtin.append_, run_underlying ht, sizeOf, typeInfo, hi, Builtin.lenOf, Builtin.firstCells]
theorem wpList_append_nil {P : Program} {w : World} {ops : Array Oper} {rest : List Oper} {o : Oper} {a : Act} {Q : Exit → Act → World → Prop} (hgd : o.guard = none) (s x : Operand) (t : TypeId)
  (ho : o.op = .call { callee := .builtin .append, args := #[s, x], argTypes := #[t, t] }) (e : TypeId) (i : TypeInfo) (ht : P.underlying t = some (.slice e)) (hi : P.info? e = some i) (c : Nat)
  (hs : a.eval s = .slice none 0 0) (hx : a.eval x = .slice none 0 c) (h : wpList P ops Q rest (a.put o.dst (.slice none 0 0)) w) : wpList P ops Q (o :: rest) a w := by
 refine wpList_plain hgd fun K hK => ?_
 have hrun := run_append_nil (P := P) (w := w) t o.type e i ht hi c
 unfold Oper.wp
 simp [execOp, ho, resolve, invoke, builtin, hs, hx, hrun, Result.andThen]
 exact hK _ _ h
theorem wpList_append_list {P : Program} (w : World) {ops : Array Oper} {rest : List Oper} {o : Oper} {a : Act} {Q : Exit → Act → World → Prop} (hgd : o.guard = none) (s x : Operand) (t : TypeId)
  (ho : o.op = .call { callee := .builtin .append, args := #[s, x], argTypes := #[t, t] })
  (e : Nat) (i : TypeInfo) (z : Value) (ht : P.underlying t = some (.slice e)) (hi : P.info? e = some i) (hz : i.zero = some z) (hsize : i.size = 5) (hby : i.bytes = 80) (hzs : z.cells.size = 5)
  (l : List PVal) (la : Option Addr) (n c : Nat) (hn : l.length = n) (hs : a.eval s = .slice none 0 0) (hx : a.eval x = .slice la n c) (hL : RdL w (Now w) l (.slice la n c))
  (h : ∀ v' w', (∃ la' c', v' = .slice la' n c') → RdL w' (Now w') l v' → Below w.heap.size w w' → wpList P ops Q rest (a.put o.dst v') w') : wpList P ops Q (o :: rest) a w := by
 subst hn
 have hL0 := hL
 obtain ⟨la', cap, cs, hv, hlc, ⟨hcm, hll⟩, hrow, hr⟩ := hL
 injection hv with e1 e2 e3
 subst e1 e3
 match hla : la, l, hrow, hx with
 | none, l, hrow, hx =>
  rcases hrow with h0 | ⟨b, off, hb, _⟩
  ·rw [h0] at hx
   refine wpList_append_nil hgd s x t ho e i ht hi c hs hx (h _ _ ⟨none, 0, by rw [h0]⟩ ?_ (Below.refl _ _))
   obtain rfl : l = [] := List.eq_nil_of_length_eq_zero h0
   exact ⟨none, 0, fun _ => [], rfl, Nat.le_refl _, by simp, .inl rfl, fun i x hx => by simp at hx⟩
  ·cases hb
 | some ad, l, hrow, hx =>
  obtain ⟨css, hcl, hcr⟩ : ∃ css : List (List Value), css.length = l.length ∧ ∀ i, i < l.length → css[i]? = some (cs i) := ⟨(List.range l.length).map cs, by simp, fun i hi => by simp [hi]⟩
  have hrd : ∀ (i : Nat) (x : PVal) (ys : List Value), l[i]? = some x → css[i]? = some ys → Rd w (Now w) x ys := fun i x ys hx hy => by
   have hi : i < l.length := (List.getElem?_eq_some_iff.1 hx).1
   rw [hcr i hi] at hy
   have := Option.some.inj hy
   subst this
   exact hr i x hx
  have h5 : ∀ ys ∈ css, ys.length = 5 := by
   intro ys hys
   obtain ⟨i, hi⟩ := List.getElem?_of_mem hys
   have hil : i < l.length := by rw [← hcl]; exact (List.getElem?_eq_some_iff.1 hi).1
   exact (hrd i _ ys (List.getElem?_eq_getElem hil) hi).len
  have hfl : css.flatten.length = l.length * 5 := by
   rw [List.length_flatten, ← hcl]
   clear hcl hcr hrd
   induction css with
   | nil => rfl
   | cons c r ih => simp only [List.map_cons, List.sum_cons, List.length_cons]; rw [ih (fun x hx => h5 x (by simp [hx])), h5 c (by simp)]; omega
  refine wpList_append_own w hgd s x t ho w.heap.size e i z 5 80 ht hi hz hsize hby hzs (by omega) (.slice none 0 0) 0 [] hs (World.ownsRow_nil _ _ _ _) ad l.length c css.flatten hx hfl (fun j u hu => ?_) (fun u hu => ?_) (by unfold maxLen; omega) (by omega) (Nat.le_refl _) ?_
  ·obtain ⟨i, q, ys, h1, h2, h3⟩ := flat_inv 5 (by decide) css h5 j u hu
   have hil : i < l.length := by rw [← hcl]; exact (List.getElem?_eq_some_iff.1 h1).1
   rcases hrow with h0 | ⟨b, off, hb, _, hc⟩
   ·omega
   ·obtain rfl : ad = ⟨b, off, none⟩ := Option.some.inj hb
    rw [hcr i hil] at h1
    have := Option.some.inj h1
    subst this
    have := hc i hil q u h2
    rw [h3]
    rw [show off + i * 5 + q = off + (i * 5 + q) by omega] at this
    unfold Addr.add
    split
    ·rename_i h00; rw [h00] at this; exact this
    ·exact this
  ·obtain ⟨ys, hys, hu⟩ := List.mem_flatten.1 hu
   obtain ⟨i, hi⟩ := List.getElem?_of_mem hys
   have hil : i < l.length := by rw [← hcl]; exact (List.getElem?_eq_some_iff.1 hi).1
   exact (hrd i _ ys (List.getElem?_eq_getElem hil) hi).one u hu
  ·intro v' w' hown hg _
   have hb : Below w.heap.size w w' := grown_below (by simpa [Value.ownBlock] using hg)
   rw [Nat.zero_add, List.nil_append] at hown
   have hO : OwnL w' (Now w) w.heap.size e l v' := ⟨css, hcl, hown, fun b hb' e => by
    have := (hown.lt b e).1
    have : b < w.heap.size := hb'
    omega, fun i x ys hx hy => (hrd i x ys hx hy).keep (fun _ h => h) (fun b hb' => hb.block b hb')⟩
   refine h v' w' ?_ (hO.read (fun b hb' => Nat.lt_of_lt_of_le hb' hb.size) (fun b hb' => hO.lt b hb') hll) hb
   obtain ⟨oa, oc, rfl, _⟩ := hO.form
   exact ⟨oa, oc, rfl⟩
set_option maxRecDepth 100000 in
theorem rparts_calls (V : PVal) (w : World) (cs : List Value) (h : Rd w (Now w) V cs) :
  Calls Tryz.prog 86 #[.agg cs.toArray] w fun e w' => ∃ la cap, e = .returned (.slice la V.parts.length cap) ∧ RdL w' (Now w') V.parts (.slice la V.parts.length cap) ∧ Below w.heap.size w w' := by
 obtain ⟨k, n, s, l, fn, fv⟩ := V
 have h0 := hid h
 obtain ⟨la, lc, fa, fc, rfl, hk, hn, hs, hlc, hlm, hfc, hfm, hL, hF⟩ := h.inv
 obtain ⟨i0, hi, hz0, hz1, hz2⟩ := info_parts info52
 by_cases h5 : k = 5
 ·subst h5
  have hn0 : Hid (PVal.parts (.mk 5 n s l fn fv) = l) := rfl
  have hL := hid (hL.later (below_new w (.cells #[.int .i64 5, .int .i64 n, .string s, .slice la l.length lc, .slice fa fv.length fc] 25)))
  go_enter Tryz.func86, Tryz.ntmps86
  go_wp2_with (first
   | (at_builtin; (refine wpList_append_list _ rfl _ _ 22 rfl 25 i0 _ Tryz.underlying22 hi hz0 hz1 hz2 rfl l la l.length lc rfl rfl rfl hL.out ?_); rintro v' w2 ⟨la', c', rfl⟩ hr2 hb2))
  go_ret
  rw [hn0.out]
  exact ⟨la', c', rfl, hr2, (below_new _ _).step hb2⟩
 by_cases h6 : k = 6
 ·subst h6
  clear h5
  have hn0 : Hid (PVal.parts (.mk 6 n s l fn fv) = fv) := rfl
  have hfe := hid hF.1
  go_enter Tryz.func86, Tryz.ntmps86
  go_wp2_with fail
  go_loopg [3, 4] fv.length (fun g o i wr => ∃ j : Nat, g + j = fv.length ∧ i = .int .i64 j ∧ Below (w.alloc (.cells #[.int .i64 6, .int .i64 n, .string s, .slice la l.length lc, .slice fa fv.length fc] 25)).heap.size (w.alloc (.cells #[.int .i64 6, .int .i64 n, .string s, .slice la l.length lc, .slice fa fv.length fc] 25)) wr ∧ OwnL wr (· < w.heap.size) (w.heap.size + 1) 25 (fv.take j) o)
  case atStart => exact ⟨0, by omega, rfl, Below.refl _ _, OwnL.nil _ _ _ _⟩
  case round =>
   obtain ⟨j, hj, rfl, hbr0, hown⟩ := hrel
   have hbr : Below w.heap.size w wr := (below_new _ _).step hbr0
   have c4b := box_cell (j := 4) hbr0 rfl
   have hbs : w.heap.size + 1 ≤ wr.heap.size := by have := hbr0.size; simpa using this
   by_cases hlt : j < fv.length
   ·obtain ⟨x, hx⟩ : ∃ x, fv[j]? = some x := ⟨_, List.getElem?_eq_getElem hlt⟩
    obtain ⟨nm, hnm⟩ : ∃ nm, fn[j]? = some nm := ⟨_, List.getElem?_eq_getElem (by rw [hfe.out]; exact hlt)⟩
    obtain ⟨b, off, xs, rfl, hxS, hxc, hxr, hnz⟩ := hF.at_ hnm hx
    obtain ⟨xk, xn, xsx, xl, xfn, xfv⟩ := x
    obtain ⟨xla, xlc, xfa, xfc, rfl, _⟩ := hxr.inv
    obtain ⟨c0, c1, c2, c3, c4, c5⟩ := six (cells_later hbr hxS hxc)
    clear hxc
    have hl : Hid ((fv.take j).length = j) := by show _ = _; simp; omega
    have hbs := hid hbs
    obtain ⟨oa, oc, hof, hoc⟩ := hown.form
    rw [hl.out] at hof hoc
    subst hof
    go_wp2_with (first
     | (at_builtin; (refine wpList_append_val _ rfl _ _ 22 rfl (w.heap.size + 1) 25 i0 _ Tryz.underlying22 hi hz0 hz1 hz2 rfl (· < w.heap.size) (fv.take j) _ j hl.out rfl (hown.keep (below_new _ _) (fun b hb => Nat.lt_of_lt_of_le hb hbr.size)) ⟨wr.heap.size, 0, none⟩ 1 [.int .i64 xk, .int .i64 xn, .string xsx, .slice xla xl.length xlc, .slice xfa xfv.length xfc] (.mk xk xn xsx xl xfn xfv) rfl (cells_new _ _ (by simp) _ _) (hxr.keep (fun _ h => h) (fun b hb => (hbr.step (below_new _ _)).block b hb)) (by omega) (fun b h => Nat.lt_succ_of_lt h) (Nat.le_trans hbs.out (below_new _ _).size) ?_); intro v' w2 hown2 hg2 hlow))
    go_roundg (fv.length - (j + 1))
    case measure => omega
    case rel => exact ⟨j + 1, by omega, by go_num, by simpa using (hbr0.trans (by simpa using (below_new wr (.cells #[.int .i64 xk, .int .i64 xn, .string xsx, .slice xla xl.length xlc, .slice xfa xfv.length xfc] 25)).mono hbs.out)).trans ⟨hg2.os, hg2.tape, hg2.output, hg2.size, by simpa using hlow⟩, by rw [take_succ_of hx]; exact hown2⟩
   ·go_wp2_with fail
    obtain rfl : j = fv.length := by omega
    go_ret
    rw [List.take_length] at hown
    obtain ⟨oa, oc, rfl, hoc⟩ := hown.form
    rw [hn0.out]
    refine ⟨oa, oc, rfl, hown.read (fun b hb => Nat.lt_of_lt_of_le hb hbr.size) ?_ (by omega), hbr⟩
    exact fun b hb => hown.lt b hb
 ·have b5 : (k == 5) = false := by simpa using h5
  have b6 : (k == 6) = false := by simpa using h6
  go_enter Tryz.func86, Tryz.ntmps86
  go_wp2_with fail
  go_ret
  have e0 : PVal.parts (.mk k n s l fn fv) = [] := by simp [PVal.parts, h5, h6]
  rw [e0]
  exact ⟨none, 0, rfl, ⟨none, 0, fun _ => [], rfl, Nat.le_refl _, by simp, .inl rfl, fun i x hx => by simp at hx⟩, below_new _ _⟩
theorem rdepth_big : ∀ (V : PVal) (w : World) (cs : List Value), V.nodes ≤ 1000000000000 → Rd w (Now w) V cs →
  Calls Tryz.prog 61 #[.agg cs.toArray] w fun e w' => e = .returned (.int .i64 V.depth) ∧ Below w.heap.size w w' := by
 intro V
 induction hN : V.nodes using Nat.strongRecOn generalizing V with
 | _ N ih =>
 subst hN
 intro w cs hN hV
 obtain ⟨k, n, s, l, fn, fv⟩ := V
 obtain ⟨la, lc, fa, fc, rfl, hk, hn, hs, hlc, hlm, hfc, hfm, hL, hF⟩ := hV.inv
 by_cases h56 : k = 5 ∨ k = 6
 ·have hd : Hid (PVal.depth (.mk k n s l fn fv) = depthL (PVal.parts (.mk k n s l fn fv)) + 1) := depth_some h56
  have hp := rparts_calls (.mk k n s l fn fv) _ _ (hV.later (below_new w (.cells #[.int .i64 k, .int .i64 n, .string s, .slice la l.length lc, .slice fa fv.length fc] 25)))
  have hpn := nodes_parts (.mk k n s l fn fv)
  generalize PVal.parts (.mk k n s l fn fv) = ps at *
  have hpl := nodesL_length ps
  rcases h56 with rfl | rfl
  all_goals
   go_enter Tryz.func61, Tryz.ntmps61
   go_wp2_with fail
   refine hp.mono ?_
   rintro e w1 ⟨pa, pc, rfl, hps, hb1⟩
   have hb0 : Below w.heap.size w w1 := (below_new w _).step hb1
   go_wp2_with fail
   go_loopg [3, 5] ps.length (fun g m i wr => ∃ j : Nat, g + j = ps.length ∧ i = .int .i64 j ∧ m = .int .i64 (depthL (ps.take j)) ∧ Below w1.heap.size w1 wr)
   case atStart => exact ⟨0, by omega, rfl, rfl, Below.refl _ _⟩
   case round =>
    obtain ⟨j, hj, rfl, rfl, hbr⟩ := hrel
    have hpr := hps.later hbr
    have hdt := Nat.le_trans (depthL_take_le ps j) (depthL_le_nodesL ps (fun x _ => depth_le_nodes x))
    by_cases hlt : j < ps.length
    ·obtain ⟨x, hx⟩ : ∃ x, ps[j]? = some x := ⟨_, List.getElem?_eq_getElem hlt⟩
     obtain ⟨b, off, xs, rfl, hxS, hxc, hxr⟩ := hpr.at_ hx
     have hxn := nodes_mem (List.mem_of_getElem? hx)
     have hcx := ih x.nodes (by omega) x rfl
     have hdx := depth_le_nodes x
     have hsx := hid (depthL_succ hx)
     obtain ⟨xk, xn, xsx, xl, xfn, xfv⟩ := x
     obtain ⟨xla, xlc, xfa, xfc, rfl, _⟩ := hxr.inv
     obtain ⟨c0, c1, c2, c3, c4⟩ := five hxc
     clear hxc
     go_wp2_with fail
     refine (hcx _ _ (by omega) hxr).mono ?_
     rintro e w2 ⟨rfl, hb2⟩
     go_wp2_with fail
     all_goals
      go_roundg (ps.length - (j + 1))
      case measure => omega
      case rel => exact ⟨j + 1, by omega, by go_num, by rw [hsx.out]; go_num, hbr.step hb2⟩
    ·go_wp2_with fail
     obtain rfl : j = ps.length := by omega
     rw [List.take_length]
     go_ret
     exact ⟨by rw [hd.out]; go_num, hb0.step hbr⟩
 ·have h5 : ¬ k = 5 := fun h => h56 (.inl h)
  have h6 : ¬ k = 6 := fun h => h56 (.inr h)
  have b5 : (k != 5) = true := by simp [h5]
  have b6 : (k != 6) = true := by simp [h6]
  go_enter Tryz.func61, Tryz.ntmps61
  go_wp2_with fail
  go_ret
  exact ⟨by simp [PVal.depth, h5, h6], below_new _ _⟩
end Go.Proofs.YthjihdpleclejaaGreatDoor
namespace Go.Proofs.YthjihdpleclejaaGreatDoor
open Go.RowKit Go.Proofs
structure Save (g : Nat) (w w' : World) : Prop where
  os : w'.os = w.os
  tape : w'.tape = w.tape
  output : w'.output = w.output
  size : w.heap.size ≤ w'.heap.size
  block : ∀ k, k < w.heap.size → k ≠ g → w'.heap[k]? = w.heap[k]?
theorem Save.refl (g : Nat) (w : World) : Save g w w := ⟨rfl, rfl, rfl, Nat.le_refl _, fun _ _ _ => rfl⟩
theorem Save.trans {g : Nat} {a b c : World} (h : Save g a b) (k : Save g b c) : Save g a c :=
 ⟨k.os.trans h.os, k.tape.trans h.tape, k.output.trans h.output, Nat.le_trans h.size k.size, fun i hi hg => (k.block i (Nat.lt_of_lt_of_le hi h.size) hg).trans (h.block i hi hg)⟩
theorem Save.of_below {g : Nat} {w w' : World} (h : Below w.heap.size w w') : Save g w w' := ⟨h.os, h.tape, h.output, h.size, fun k hk _ => h.block k hk⟩
theorem Save.below {g B : Nat} {w w' : World} (h : Save g w w') (hB : B ≤ g) (hw : g < w.heap.size) : Below B w w' := ⟨h.os, h.tape, h.output, h.size, fun k hk => h.block k (by omega) (by omega)⟩
theorem Save.set (w : World) (g j : Nat) (u : Value) : Save g w (w.setCell ⟨g, j, none⟩ u) := ⟨rfl, rfl, rfl, by simp [World.setCell], fun k _ hk => Below.heap_setCell _ _ _ _ hk⟩
end Go.Proofs.YthjihdpleclejaaGreatDoor
namespace Go.Proofs.YthjihdpleclejaaGreatDoor
open Go.RowKit Go.Proofs
mutual
def PVal.enc : PVal → List UInt8
  | .mk k n s l fn fv => UInt8.ofNat (k % 256).toNat :: (if k = 2 then [UInt8.ofNat (n % 256).toNat] else if k = 3 then varint (turned n) else if k = 4 then varint s.size ++ s.data.toList
      else if k = 5 then varint l.length ++ encL l else if k = 6 then varint fv.length ++ encF fn fv else [])
def encL : List PVal → List UInt8
  | [] => []
  | x :: r => x.enc ++ encL r
def encF : List ByteArray → List PVal → List UInt8
  | a :: ar, x :: r => (varint a.size ++ a.data.toList) ++ (x.enc ++ encF ar r)
  | _, _ => []
end
theorem encL_append (a b : List PVal) : encL (a ++ b) = encL a ++ encL b := by
 induction a with
 | nil => rfl
 | cons x r ih => simp [encL, ih]
theorem encL_succ {l : List PVal} {i : Nat} {x : PVal} (h : l[i]? = some x) : encL (l.take (i + 1)) = encL (l.take i) ++ x.enc := by
 rw [take_succ_of h, encL_append]; simp [encL]
theorem encF_succ : ∀ {fn : List ByteArray} {fv : List PVal} {i : Nat} {a : ByteArray} {x : PVal}, fn[i]? = some a → fv[i]? = some x →
  encF (fn.take (i + 1)) (fv.take (i + 1)) = encF (fn.take i) (fv.take i) ++ ((varint a.size ++ a.data.toList) ++ x.enc)
 | [], _, _, _, _, h, _ => by simp at h
 | _, [], _, _, _, _, h => by simp at h
 | b :: ar, y :: r, 0, a, x, h, h' => by
  have e1 : b = a := by simpa using h
  have e2 : y = x := by simpa using h'
  subst e1 e2
  simp [encF]
 | b :: ar, y :: r, i + 1, a, x, h, h' => by
  have := encF_succ (fn := ar) (fv := r) (i := i) (a := a) (x := x) (by simpa using h) (by simpa using h')
  simp only [List.take_succ_cons, encF, this]
  simp
end Go.Proofs.YthjihdpleclejaaGreatDoor
namespace Go.Proofs.YthjihdpleclejaaGreatDoor
open Go.RowKit Go.Proofs
theorem zig_calls (n : Int) (hn : -9223372036854775808 ≤ n ∧ n ≤ 9223372036854775807) (w : World) : Calls Tryz.prog 89 #[.int .i64 n] w fun e w' => e = .returned (.int .u64 (turned n)) ∧ w = w' := by
 by_cases h : n < 0
 ·have ht : Hid ((turned n : Int) = -2 * n - 1) := by show _ = _; unfold turned; rw [if_pos h]; omega
  generalize turned n = T at *
  go_enter Tryz.func89, Tryz.ntmps89
  go_wp2_with fail
  go_ret
  refine ⟨?_, rfl⟩
  have := ht.out
  first | go_num | (congr 2; omega)
 ·have ht : Hid ((turned n : Int) = 2 * n) := by show _ = _; unfold turned; rw [if_neg h]; omega
  generalize turned n = T at *
  go_enter Tryz.func89, Tryz.ntmps89
  go_wp2_with fail
  go_ret
  refine ⟨?_, rfl⟩
  have := ht.out
  first | go_num | (congr 2; omega)
theorem varint_length (n : Nat) : (varint n).length = digits n := by
 induction n using Nat.strongRecOn with
 | _ n ih =>
  rw [varint, digits]
  split
  ·rfl
  ·rw [List.length_cons, ih _ (by omega)]
theorem varint_ne (n : Nat) : varint n ≠ [] := by rw [varint]; split <;> simp
set_option maxRecDepth 100000 in
theorem rvarint_calls (n : Nat) (hn : n < 18446744073709551616) (w : World) :
  Calls Tryz.prog 88 #[.int .u64 n] w fun e w' => ∃ v, e = .returned v ∧ Made w w' (varint n) v := by
 obtain ⟨i, hP⟩ := byte8
 have hlen := varint_length n
 have hdig := digits_le n hn
 generalize hV : varint n = V at *
 replace hV := hid hV
 have hVl : V.length ≤ 10 := by omega
 clear hlen
 go_enter Tryz.func88, Tryz.ntmps88
 go_wp2_with fail
 go_loopg [0, 3] n (fun gk m o wr => ∃ (a : Nat) (l : List UInt8), gk = a ∧ a < 18446744073709551616 ∧ m = .int .u64 a ∧ l ++ varint a = V ∧ Buf w.heap.size 5 w wr l o)
 case atStart => exact ⟨n, [], rfl, hn, rfl, hV.out, Buf.nil (Below.refl _ _) (Nat.le_refl _)⟩
 case round =>
  obtain ⟨a, l, rfl, ha, rfl, hl, hb⟩ := hrel
  have hll : l.length ≤ 10 := by rw [← hl, List.length_append] at hVl; omega
  replace hl := hid hl
  by_cases h128 : 128 ≤ gk
  ·obtain ⟨b, hbb⟩ : ∃ b : UInt8, b = UInt8.ofNat (gk % 128 + 128) := ⟨_, rfl⟩
   have hv : Hid (varint gk = b :: varint (gk / 128)) := by show _ = _; rw [varint, if_neg (by omega), hbb]
   have hz : Hid (((gk : Int) % 128 + 128) = b.toNat) := by
    show _ = _
    rw [hbb, UInt8.toNat_ofNat']; omega
   clear hbb
   go_wp2_with (first
    | (at_builtin; (refine wpList_buf_made rfl _ _ rfl hP rfl (hb.later (below_new _ _)) [b] wr.heap.size 1 1 rfl rfl (src_new [b] _ (by first | (rw [show bcells [b] = [.int .u8 b.toNat] from rfl, ← hz.out]; done) | (simp only [bcells, List.map_cons, List.map_nil, ← hz.out]; go_num)) rfl) (by simp; omega) ?_); intro v' w2 hb2))
   go_roundg (gk / 128)
   case measure => omega
   case rel => exact ⟨gk / 128, l ++ [b], rfl, by omega, by go_num, by rw [← hl.out, hv.out]; simp, hb2⟩
  ·obtain ⟨b, hbb⟩ : ∃ b : UInt8, b = UInt8.ofNat gk := ⟨_, rfl⟩
   have hv : Hid (varint gk = [b]) := by show _ = _; rw [varint, if_pos (by omega), hbb]
   have hz : Hid ((gk : Int) = b.toNat) := by show _ = _; rw [hbb, UInt8.toNat_ofNat']; omega
   clear hbb
   go_wp2_with (first
    | (at_builtin; (refine wpList_buf_made rfl _ _ rfl hP rfl (hb.later (below_new _ _)) [b] wr.heap.size 1 1 rfl rfl (src_new [b] _ (by first | (rw [show bcells [b] = [.int .u8 b.toNat] from rfl, ← hz.out]; done) | (simp only [bcells, List.map_cons, List.map_nil, ← hz.out]; go_num)) rfl) (by simp; omega) ?_); intro v' w2 hb2))
   go_ret
   have he : l ++ [b] = V := by rw [← hl.out, hv.out]
   rw [he] at hb2
   obtain ⟨g, cap, hform, _⟩ := hb2.form (by rw [← hV.out]; exact varint_ne n)
   subst hform
   exact ⟨_, rfl, g, cap, rfl, hb2⟩
end Go.Proofs.YthjihdpleclejaaGreatDoor
namespace Go.Proofs.YthjihdpleclejaaGreatDoor
open Go.RowKit Go.Proofs
theorem encL_take_le (l : List PVal) (j : Nat) : (encL (l.take j)).length ≤ (encL l).length := by
 conv => rhs; rw [← List.take_append_drop j l, encL_append]
 rw [List.length_append]; omega
theorem encF_take_le : ∀ (fn : List ByteArray) (fv : List PVal) (j : Nat), (encF (fn.take j) (fv.take j)).length ≤ (encF fn fv).length
 | _, _, 0 => by simp [encF]
 | [], _, j + 1 => by simp [encF]
 | _ :: _, [], j + 1 => by simp [encF]
 | a :: ar, x :: r, j + 1 => by
  have := encF_take_le ar r j
  simp only [List.take_succ_cons, encF, List.length_append]
  omega
set_option maxRecDepth 100000 in
set_option maxHeartbeats 8000000 in
theorem rbytes_calls : ∀ (V : PVal) (w : World) (cs : List Value), V.enc.length ≤ 140737488355328 → Rd w (Now w) V cs →
  Calls Tryz.prog 62 #[.agg cs.toArray] w fun e w' => ∃ v, e = .returned v ∧ Made w w' V.enc v := by
 intro V
 induction hN : V.nodes using Nat.strongRecOn generalizing V with
 | _ N ih =>
 subst hN
 intro w cs hlen hV
 obtain ⟨i, hP⟩ := byte8
 have hvar := hid (fun n hn w => rvarint_calls n hn w)
 obtain ⟨k, n, s, l, fn, fv⟩ := V
 obtain ⟨la, lc, fa, fc, rfl, hk, hn, hs, hlc, hlm, hfc, hfm, hL, hF⟩ := hV.inv
 clear hV
 have hfl := hid hF.1
 have hL0 := hid hL
 have hF0 := hid hF
 obtain ⟨b0, hb0⟩ : ∃ b : UInt8, b = UInt8.ofNat (k % 256).toNat := ⟨_, rfl⟩
 have hz0 : Hid (k % 256 = b0.toNat) := by show _ = _; rw [hb0, UInt8.toNat_ofNat']; omega
 have hr : Hid (PVal.enc (.mk k n s l fn fv) = b0 :: (if k = 2 then [UInt8.ofNat (n % 256).toNat] else if k = 3 then varint (turned n) else if k = 4 then varint s.size ++ s.data.toList
   else if k = 5 then varint l.length ++ encL l else if k = 6 then varint fv.length ++ encF fn fv else [])) := by show _ = _; rw [PVal.enc, hb0]
 have hne : PVal.enc (.mk k n s l fn fv) ≠ [] := by rw [hr.out]; simp
 generalize PVal.enc (.mk k n s l fn fv) = R at *
 replace hne := hid hne
 clear hb0 hL hF
 have hnew : Hid (∀ (W : World) (g : Nat) (c : Int), g = W.heap.size → c = (b0.toNat : Int) → Buf W.heap.size 5 W (W.alloc (.cells #[.int .u8 c] 5)) [b0] (.slice (some ⟨g, 0, none⟩) 1 1)) := fun W g c hg hc => by
  subst hc hg
  exact buf_new [b0] (Below.refl _ _) (Nat.le_refl _) rfl (by simp [maxLen])
 by_cases h2 : k = 2
 ·subst h2
  obtain ⟨b1, hbb⟩ : ∃ b : UInt8, b = UInt8.ofNat (n % 256).toNat := ⟨_, rfl⟩
  have hz1 : Hid (n % 256 = b1.toNat) := by show _ = _; rw [hbb, UInt8.toNat_ofNat']; omega
  replace hr : Hid (R = [b0] ++ [b1]) := by show _ = _; rw [hr.out, hbb]; simp
  clear hbb
  have hb1 := hnew.out (w.alloc (.cells #[.int .i64 2, .int .i64 n, .string s, .slice la l.length lc, .slice fa fv.length fc] 25)) (w.heap.size + 1) 2 (by simp) (show (2 : Int) = b0.toNat by have := hz0.out; omega)
  go_enter Tryz.func62, Tryz.ntmps62
  go_wp2_with (first
   | (at_builtin; (refine wpList_buf_made rfl _ _ rfl hP rfl (hb1.later (below_new _ _)) [b1] (w.heap.size + 1 + 1) 1 1 rfl rfl (src_new [b1] _ (by first | (simp only [bcells, List.map_cons, List.map_nil, ← hz1.out]; done) | (simp only [bcells, List.map_cons, List.map_nil, ← hz1.out, IntKind.wrap_u8]; done)) (by simp)) (by simp) ?_); intro v' w2 hb2))
  go_ret
  rw [← hr.out] at hb2
  exact ⟨_, rfl, made_of hb2 hne.out⟩
 by_cases h3 : k = 3
 ·subst h3
  have hzg := hid (fun w => zig_calls n hn w)
  have htl := turned_lt hn
  replace hr : Hid (R = [b0] ++ varint (turned n)) := by show _ = _; rw [hr.out]; simp
  have hvl : 1 + (varint (turned n)).length ≤ 11 := by have := digits_le _ htl; rw [varint_length]; omega
  generalize turned n = T at *
  have hvT := hid (hvar.out T htl)
  generalize varint T = VT at *
  have hb1 := hnew.out (w.alloc (.cells #[.int .i64 3, .int .i64 n, .string s, .slice la l.length lc, .slice fa fv.length fc] 25)) (w.heap.size + 1) 3 (by simp) (show (3 : Int) = b0.toNat by have := hz0.out; omega)
  go_enter Tryz.func62, Tryz.ntmps62
  go_wp2_with fail
  refine (hzg.out _).mono ?_
  rintro e w1 ⟨rfl, rfl⟩
  go_wp2_with fail
  refine (hvT.out _).mono ?_
  rintro e w2 ⟨v, rfl, g2, c2, rfl, hm2⟩
  go_wp2_with (first
   | (at_builtin; (refine wpList_buf_made rfl _ _ rfl hP rfl (hb1.later hm2.below) VT g2 _ _ rfl rfl hm2.src (by simp; omega) ?_); intro v' w3 hb3))
  go_ret
  rw [← hr.out] at hb3
  exact ⟨_, rfl, made_of hb3 hne.out⟩
 by_cases h4 : k = 4
 ·subst h4
  replace hr : Hid (R = ([b0] ++ varint s.size) ++ s.data.toList) := by show _ = _; rw [hr.out]; simp
  have hvl : (varint s.size).length ≤ 10 := by have := digits_le s.size (by omega); rw [varint_length]; omega
  have hvT := hid (hvar.out s.size (by omega))
  have hlen2 : 1 + (varint s.size).length + s.size ≤ 140737488355328 := by
   rw [hr.out] at hlen
   simp at hlen
   omega
  generalize varint s.size = VT at *
  have hkS : Hid (∀ w', Below (w.alloc (.cells #[.int .i64 4, .int .i64 n, .string s, .slice la l.length lc, .slice fa fv.length fc] 25)).heap.size (w.alloc (.cells #[.int .i64 4, .int .i64 n, .string s, .slice la l.length lc, .slice fa fv.length fc] 25)) w' → w'.cell? ⟨w.heap.size, 2, none⟩ = some (.string s)) := fun w' h => box_cell h rfl
  go_enter Tryz.func62, Tryz.ntmps62
  go_upto_region 8 with fail
  have hb1 := hnew.out (w.alloc (.cells #[.int .i64 4, .int .i64 n, .string s, .slice la l.length lc, .slice fa fv.length fc] 25)) (w.heap.size + 1) 4 (by simp) (show (4 : Int) = b0.toNat by have := hz0.out; omega)
  have hwr : IntKind.u64.wrap (s.size : Int) = (s.size : Int) := by rw [IntKind.wrap_u64]; omega
  go_region_held3 (fun w' => w'.cell? ⟨w.heap.size, 2, none⟩ = some (.string s))
   (first | exact hkS.out _ hb1.below.drew | exact hkS.out _ (hb1.below.drew.step hm2.below) | exact hkS.out _ hb3.below | exact hkS.out _ hb4.below)
   (first
    | (go_at_call 88; refine (hvT.out _).mono ?_; rintro e w2 ⟨v, rfl, g2, c2, rfl, hm2⟩)
    | ((refine step_buf_made rfl _ _ rfl hP rfl ((hb1.later (Below.refl _ _).drew).later hm2.below) VT g2 _ _ rfl rfl hm2.src (by simp; omega) ?_); intro v3 w3 hb3)
    | ((refine step_buf_text rfl _ _ rfl hP Tryz.underlying9 rfl hb3 s rfl (by simp; omega) ?_); intro v4 w4 hb4))
  go_wp2_with fail
  go_ret
  rw [← hr.out] at hb4
  exact ⟨_, rfl, made_of hb4 hne.out⟩
 by_cases h5 : k = 5
 ·subst h5
  replace hr : Hid (R = ([b0] ++ varint l.length) ++ encL l) := by show _ = _; rw [hr.out]; simp
  have hvl : (varint l.length).length ≤ 10 := by have := digits_le l.length (by omega); rw [varint_length]; omega
  have hvT := hid (hvar.out l.length (by omega))
  have hlen2 : 1 + (varint l.length).length + (encL l).length ≤ 140737488355328 := by
   rw [hr.out] at hlen
   simp at hlen
   omega
  generalize varint l.length = VT at *
  have hb1 := hnew.out (w.alloc (.cells #[.int .i64 5, .int .i64 n, .string s, .slice la l.length lc, .slice fa fv.length fc] 25)) (w.heap.size + 1) 5 (by simp) (show (5 : Int) = b0.toNat by have := hz0.out; omega)
  clear hlen
  go_enter Tryz.func62, Tryz.ntmps62
  go_wp2_with fail
  refine (hvT.out _).mono ?_
  rintro e w2 ⟨v, rfl, g2, c2, rfl, hm2⟩
  go_wp2_with (first
   | (at_builtin; (refine wpList_buf_made rfl _ _ rfl hP rfl (hb1.later hm2.below) VT g2 _ _ rfl rfl hm2.src (by simp; omega) ?_); intro v' w3 hb3))
  go_loopg [3, 4] l.length (fun q o i wr => ∃ j : Nat, q + j = l.length ∧ i = .int .i64 j ∧ Buf (w.alloc (.cells #[.int .i64 5, .int .i64 n, .string s, .slice la l.length lc, .slice fa fv.length fc] 25)).heap.size 5 (w.alloc (.cells #[.int .i64 5, .int .i64 n, .string s, .slice la l.length lc, .slice fa fv.length fc] 25)) wr (([b0] ++ VT) ++ encL (l.take j)) o)
  case atStart => exact ⟨0, by omega, rfl, by simpa [encL] using hb3⟩
  case round =>
   obtain ⟨j, hj, rfl, hbr⟩ := hrel
   have a3 := box_cell (j := 3) hbr.below rfl
   have hpr := hL0.out.later ((below_new _ _).step hbr.below)
   by_cases hlt : j < l.length
   ·obtain ⟨x, hx⟩ : ∃ x, l[j]? = some x := ⟨_, List.getElem?_eq_getElem hlt⟩
    obtain ⟨b, off, xs, rfl, hxS, hxc, hxr⟩ := hpr.at_ hx
    have hxn := nodes_mem (List.mem_of_getElem? hx)
    have hsx := hid (encL_succ hx)
    have hle := encL_take_le l (j + 1)
    rw [hsx.out, List.length_append] at hle
    have hcx := hid (fun w cs h => ih x.nodes (by simp only [PVal.nodes]; omega) x rfl w cs (by omega) h)
    generalize x.enc = ex at *
    generalize encL (l.take j) = done at *
    clear hx
    obtain ⟨xk, xn, xsx, xl, xfn, xfv⟩ := x
    obtain ⟨xla, xlc, xfa, xfc, rfl, _⟩ := hxr.inv
    obtain ⟨d0, d1, d2, d3, d4⟩ := five hxc
    clear hxc
    go_wp2_with fail
    refine (hcx.out _ _ hxr).mono ?_
    rintro e w4 ⟨v4, rfl, g4, c4, rfl, hm4⟩
    go_wp2_with (first
     | (at_builtin; (refine wpList_buf_made rfl _ _ rfl hP rfl (hbr.later hm4.below) ex g4 _ _ rfl rfl hm4.src (by simp; omega) ?_); intro v5 w5 hb5))
    go_roundg (l.length - (j + 1))
    case measure => omega
    case rel => exact ⟨j + 1, by omega, by go_num, by rw [hsx.out, ← List.append_assoc]; exact hb5⟩
   ·have he : l.take j = l := List.take_of_length_le (by omega)
    rw [he, ← hr.out] at hbr
    go_wp2_with fail
    go_ret
    exact ⟨_, rfl, made_of hbr hne.out⟩
 by_cases h6 : k = 6
 ·subst h6
  replace hr : Hid (R = ([b0] ++ varint fv.length) ++ encF fn fv) := by show _ = _; rw [hr.out]; simp
  have hvl : (varint fv.length).length ≤ 10 := by have := digits_le fv.length (by omega); rw [varint_length]; omega
  have hvT := hid (hvar.out fv.length (by omega))
  have hlen2 : 1 + (varint fv.length).length + (encF fn fv).length ≤ 140737488355328 := by
   rw [hr.out] at hlen
   simp at hlen
   omega
  generalize varint fv.length = VT at *
  have hb1 := hnew.out (w.alloc (.cells #[.int .i64 6, .int .i64 n, .string s, .slice la l.length lc, .slice fa fv.length fc] 25)) (w.heap.size + 1) 6 (by simp) (show (6 : Int) = b0.toNat by have := hz0.out; omega)
  clear hlen
  go_enter Tryz.func62, Tryz.ntmps62
  go_wp2_with fail
  refine (hvT.out _).mono ?_
  rintro e w2 ⟨v, rfl, g2, c2, rfl, hm2⟩
  go_wp2_with (first
   | (at_builtin; (refine wpList_buf_made rfl _ _ rfl hP rfl (hb1.later hm2.below) VT g2 _ _ rfl rfl hm2.src (by simp; omega) ?_); intro v' w3 hb3))
  go_loopg [3, 5] fv.length (fun q o i wr => ∃ j : Nat, q + j = fv.length ∧ i = .int .i64 j ∧ Buf (w.alloc (.cells #[.int .i64 6, .int .i64 n, .string s, .slice la l.length lc, .slice fa fv.length fc] 25)).heap.size 5 (w.alloc (.cells #[.int .i64 6, .int .i64 n, .string s, .slice la l.length lc, .slice fa fv.length fc] 25)) wr (([b0] ++ VT) ++ encF (fn.take j) (fv.take j)) o)
  case atStart => exact ⟨0, by omega, rfl, by simpa [encF] using hb3⟩
  case round =>
   obtain ⟨j, hj, rfl, hbr⟩ := hrel
   have a4 := box_cell (j := 4) hbr.below rfl
   by_cases hlt : j < fv.length
   ·obtain ⟨x, hx⟩ : ∃ x, fv[j]? = some x := ⟨_, List.getElem?_eq_getElem hlt⟩
    obtain ⟨nm, hnm⟩ : ∃ nm, fn[j]? = some nm := ⟨_, List.getElem?_eq_getElem (by rw [hfl.out]; exact hlt)⟩
    obtain ⟨b, off, xs, rfl, hxS, hxc, hxr, hnz⟩ := hF0.out.at_ hnm hx
    have hxn := nodes_mem (List.mem_of_getElem? hx)
    have hsx := hid (encF_succ hnm hx)
    have hle := encF_take_le fn fv (j + 1)
    rw [hsx.out, List.length_append, List.length_append, List.length_append] at hle
    have hnl : nm.data.toList.length = nm.size := by simp
    rw [hnl] at hle
    have hcx := hid (fun w cs h => ih x.nodes (by simp only [PVal.nodes]; omega) x rfl w cs (by omega) h)
    have hvN := hid (hvar.out nm.size (by omega))
    generalize x.enc = ex at *
    generalize encF (fn.take j) (fv.take j) = done at *
    generalize varint nm.size = VN at *
    clear hx hnm
    replace hnl := hid hnl
    obtain ⟨xk, xn, xsx, xl, xfn, xfv⟩ := x
    obtain ⟨xla, xlc, xfa, xfc, rfl, _⟩ := hxr.inv
    have hc6 : Hid (∀ w', Below w.heap.size w w' → _) := fun w' h => six (cells_later h hxS hxc)
    have hxr := hid hxr
    have hkS : Hid (∀ w', Below (w.alloc (.cells #[.int .i64 6, .int .i64 n, .string s, .slice la l.length lc, .slice (some ⟨b, off, none⟩) fv.length fc] 25)).heap.size (w.alloc (.cells #[.int .i64 6, .int .i64 n, .string s, .slice la l.length lc, .slice (some ⟨b, off, none⟩) fv.length fc] 25)) w' → w'.cell? ⟨w.heap.size, 4, none⟩ = some (.slice (some ⟨b, off, none⟩) fv.length fc) ∧ w'.cell? ⟨b, off + j * 6, none⟩ = some (.string nm)) :=
     fun w' h => ⟨box_cell h rfl, (hc6.out w' ((below_new _ _).step h)).1⟩
    have hwr : IntKind.u64.wrap (nm.size : Int) = (nm.size : Int) := by rw [IntKind.wrap_u64]; omega
    have p1 : (0 : Int) ≤ (j : Int) := by omega
    have l1 : (j : Int) < (fv.length : Int) := by omega
    clear hxc
    go_upto_region 20 with fail
    go_region_held3 (fun w' => w'.cell? ⟨w.heap.size, 4, none⟩ = some (.slice (some ⟨b, off, none⟩) fv.length fc) ∧ w'.cell? ⟨b, off + j * 6, none⟩ = some (.string nm))
     (first | exact hkS.out _ hbr.below.drew | exact hkS.out _ (hbr.below.drew.step hm4.below) | exact hkS.out _ hb5.below | exact hkS.out _ hb6.below)
     (first
      | (go_at_call 88; refine (hvN.out _).mono ?_; rintro e w4 ⟨v4, rfl, g4, c4, rfl, hm4⟩)
      | ((refine step_buf_made rfl _ _ rfl hP rfl ((hbr.later (Below.refl _ _).drew).later hm4.below) VN g4 _ _ rfl rfl hm4.src (by simp; omega) ?_); intro v5 w5 hb5)
      | ((refine step_buf_text rfl _ _ rfl hP Tryz.underlying9 rfl hb5 nm rfl (by simp; omega) ?_); intro v6 w6 hb6))
    clear a4 hwr
    have a4 := box_cell (j := 4) hb6.below rfl
    have hbw := hid ((below_new _ _).step hb6.below)
    obtain ⟨d0, d1, d2, d3, d4, d5⟩ := hc6.out _ hbw.out
    go_wp2_with fail
    refine (hcx.out _ _ (hxr.out.later hbw.out)).mono ?_
    rintro e w7 ⟨v7, rfl, g7, c7, rfl, hm7⟩
    go_wp2_with (first
     | (at_builtin; (refine wpList_buf_made rfl _ _ rfl hP rfl (hb6.later hm7.below) ex g7 _ _ rfl rfl hm7.src (by simp; omega) ?_); intro v8 w8 hb8))
    go_roundg (fv.length - (j + 1))
    case measure => omega
    case rel => exact ⟨j + 1, by omega, by go_num, by rw [hsx.out]; simpa using hb8⟩
   ·have he : encF (fn.take j) (fv.take j) = encF fn fv := by rw [List.take_of_length_le (by omega : fv.length ≤ j), List.take_of_length_le (by rw [hfl.out]; omega : fn.length ≤ j)]
    rw [he, ← hr.out] at hbr
    go_wp2_with fail
    go_ret
    exact ⟨_, rfl, made_of hbr hne.out⟩
 ·replace hr : Hid (R = [b0]) := by show _ = _; rw [hr.out]; simp [h2, h3, h4, h5, h6]
  have b2 : (k == 2) = false := by simpa using h2
  have b3 : (k == 3) = false := by simpa using h3
  have b4 : (k == 4) = false := by simpa using h4
  have b5 : (k == 5) = false := by simpa using h5
  have b6 : (k == 6) = false := by simpa using h6
  have hb1 := hnew.out (w.alloc (.cells #[.int .i64 k, .int .i64 n, .string s, .slice la l.length lc, .slice fa fv.length fc] 25)) (w.heap.size + 1) (k % 256) (by simp) hz0.out
  rw [← hr.out] at hb1
  go_enter Tryz.func62, Tryz.ntmps62
  go_wp2_with fail
  go_ret
  exact ⟨_, rfl, made_of hb1 hne.out⟩
end Go.Proofs.YthjihdpleclejaaGreatDoor
