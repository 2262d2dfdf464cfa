/-
  Walk: the reference's put. No condition.
  The reference's With at work: its row of fields. No condition.
-/
import Derived.Test.YthjihdpleclejaaGreatDoorMgPth40
import Derived.Test.YthjihdpleclejaaGreatDoorMgPthV
namespace Go.Proofs.YthjihdpleclejaaGreatDoor
open Go.RowKit Go.Proofs
set_option maxRecDepth 100000 in
set_option maxHeartbeats 8000000 in
theorem rput_calls {S : Nat → Prop} (V x : PVal) (m : Nat) {w : World} {cs xs : List Value} (hS : ∀ c, S c → c < w.heap.size) (hm : V.mass ≤ 1000000000000) (hml : m < V.l.length) (hV : Rd w S V cs) (hx : Rd w S x xs) :
  Calls Tryz.prog 64 #[.agg cs.toArray, .int .i64 m, .agg xs.toArray] w fun e w' => ∃ ys, e = .returned (.agg ys.toArray) ∧ Below w.heap.size w w' ∧ Rd w' (fun c => S c ∨ From w.heap.size w' c) (listV (V.l.set m x)) ys := by
 obtain ⟨i0, hi, hz0, hz1, hz2⟩ := info_parts info52
 have hlm := hid (show V.l.length ≤ 1000000000000 from by have h1 := len_massL V.l; have h2 := mass_l V; omega)
 obtain ⟨k, n0, str, l, fn, fv⟩ := V
 simp only [PVal.l] at hml hlm ⊢
 obtain ⟨la, lc, fa, fc, rfl, _, _, _, _, _, _, _, hLr, _⟩ := hV.inv
 obtain ⟨css, hcl, hlie, hln, hce⟩ := rdL_lie hS hLr
 obtain ⟨ds, hds⟩ : ∃ ds, css[m]? = some ds := ⟨_, List.getElem?_eq_getElem (by omega)⟩
 have hxr := hid hx
 obtain ⟨uk, un, ut, ua, ul, uc, uf, um, ug, rfl⟩ := hx.five
 have hSw := hid hS
 obtain ⟨ad, rfl⟩ : ∃ ad, la = some ad := by
  cases la with
  | none => have := hln rfl; omega
  | some ad => exact ⟨ad, rfl⟩
 have hfl := flat_len 5 css hlie.1
 rw [hcl] at hfl
 have hc5 := hid hlie.1
 have hlie0 := hid hlie
 replace hce := hid hce
 replace hds := hid hds
 have hcll := hid hcl
 clear hLr hV hx hS hln hlie hcl
 obtain ⟨W0, hW0⟩ : ∃ W0, W0 = (((w.alloc (.cells #[.int .i64 k, .int .i64 n0, .string str, .slice (some ad) l.length lc, .slice fa fv.length fc] 25)).alloc (.cells #[.int .i64 uk, .int .i64 un, .string ut, .slice ua ul uc, .slice uf um ug] 25)).alloc (.cells #[.int .i64 0, .int .i64 0, .string ⟨#[]⟩, .slice none 0 0, .slice none 0 0] 25)).alloc (.cells #[.int .i64 5, .int .i64 0, .string ⟨#[]⟩, .slice none 0 0, .slice none 0 0] 25) := ⟨_, rfl⟩
 have D : Hid (Below w.heap.size w W0) := by show Below _ _ _; rw [hW0]; exact (((below_new _ _).step (below_new _ _)).step (below_new _ _)).step (below_new _ _)
 have r3 : Hid (W0.heap[w.heap.size]? = some (.cells #[.int .i64 k, .int .i64 n0, .string str, .slice (some ad) l.length lc, .slice fa fv.length fc] 25 (0, 0))) := by show _ = _; rw [hW0]; exact al_old (al_old (al_old (al_at rfl)))
 have r5 : Hid (W0.heap[w.heap.size + 1]? = some (.cells #[.int .i64 uk, .int .i64 un, .string ut, .slice ua ul uc, .slice uf um ug] 25 (0, 0))) := by show _ = _; rw [hW0]; exact al_old (al_old (al_at (by simp)))
 have r6 : Hid (W0.heap[w.heap.size + 2]? = some (.cells #[.int .i64 0, .int .i64 0, .string ⟨#[]⟩, .slice none 0 0, .slice none 0 0] 25 (0, 0))) := by show _ = _; rw [hW0]; exact al_old (al_at (by simp))
 have r7 : Hid (W0.heap[w.heap.size + 3]? = some (.cells #[.int .i64 5, .int .i64 0, .string ⟨#[]⟩, .slice none 0 0, .slice none 0 0] 25 (0, 0))) := by show _ = _; rw [hW0]; exact al_at (by simp)
 have hW0s : Hid (W0.heap.size = w.heap.size + 4) := by show _ = _; rw [hW0]; simp
 go_enter Tryz.func64, Tryz.ntmps64
 go_upto_region 2 with fail
 rw [← hW0]
 clear hW0
 have hfa := hid ((hlie0.out.later D.out).flat)
 have hone := hid hlie0.out.one
 have b3 := box_at (j := 3) r3.out rfl
 have c3 := box_at (j := 3) r7.out rfl
 go_upto_region 3 with (at_builtin; (refine wpList_append_own_any _ rfl (.tmp 10) (.tmp 12) 22 rfl W0.heap.size 25 i0 (Value.agg #[.int .i64 0, .int .i64 0, .string ByteArray.empty, .slice none 0 0, .slice none 0 0]) 5 80 Tryz.underlying22 hi hz0 hz1 hz2 rfl (by decide) _ 0 [] rfl (World.ownsRow_nil _ _ _ _) (some ad) l.length lc css.flatten rfl hfl (fun h => by cases h) hfa.out hone.out (by have := hlm.out; unfold maxLen; omega) (by have := hlm.out; omega) (Nat.le_refl _) ?_); intro v2 w2 hown2 hg2; rw [Nat.zero_add, List.nil_append] at hown2; obtain ⟨g, cap, rfl⟩ := own_some hown2 (by omega); have D2 := hid ((D.out).trans ((grown_below hg2).mono (Nat.le_trans (Nat.le_of_eq rfl) D.out.size))); have E2 := hid (grown_below hg2); replace hown2 := hid hown2; clear hg2; have q7 := hid ((E2.out.block _ (lt_of_block r7.out)).trans r7.out); clear c3; have c3 := box_at (j := 3) q7.out rfl; have f0 := box_free q7.out)
 clear b3 c3 f0
 have hgl := hid (hown2.out.lt g rfl)
 have p3 := hid ((E2.out.block _ (lt_of_block r3.out)).trans r3.out)
 have p5 := hid ((E2.out.block _ (lt_of_block r5.out)).trans r5.out)
 have p6 := hid ((E2.out.block _ (lt_of_block r6.out)).trans r6.out)
 obtain ⟨w3, hw3⟩ : ∃ x, x = w2.setCell ⟨w.heap.size + 1 + 1 + 1, 3, none⟩ (.slice (some ⟨g, 0, none⟩) l.length cap) := ⟨_, rfl⟩
 have s7 : Hid (w3.heap[w.heap.size + 3]? = some (.cells #[.int .i64 5, .int .i64 0, .string ⟨#[]⟩, .slice (some ⟨g, 0, none⟩) l.length cap, .slice none 0 0] 25 (0, 0))) := by show _ = _; rw [hw3]; exact row_setCell q7.out
 have hk3 : Hid (∀ b, b ≠ w.heap.size + 3 → w3.heap[b]? = w2.heap[b]?) := fun b hb => by rw [hw3]; exact Below.heap_setCell _ _ _ _ hb
 have hz3 : Hid (w3.heap.size = w2.heap.size) := by show _ = _; rw [hw3]; simp [World.setCell]
 have D3 : Hid (Below w.heap.size w w3) := by show Below _ _ _; rw [hw3]; exact D2.out.setCell (p := ⟨w.heap.size + 1 + 1 + 1, 3, none⟩) (by show _ ≤ w.heap.size + 3; omega) _
 rw [← hw3]
 clear hw3 q7
 have hgw := hid (show w.heap.size + 4 ≤ g from by rw [← hW0s.out]; exact hgl.out.1)
 have hgc := hid (show g < w3.heap.size from by rw [hz3.out]; exact hgl.out.2)
 have hown3 := hid (own_keep' (w' := w3) hown2.out (fun k' hk' => by
  obtain rfl : g = k' := by injection hk'
  exact hk3.out g (by have := hgw.out; omega)))
 have s5 := hid ((hk3.out _ (by omega)).trans p5.out)
 have s6 := hid ((hk3.out _ (by omega)).trans p6.out)
 clear hown2 p3 p5 p6 r3 r5 r6 r7 hfa hone
 have hth := hid (fun j (hj : j < 5) => own_there hown3.out (o := m * 5 + j) (by have h1 := (own_size hown3.out).1; have hmm : (m + 1) * 5 ≤ cap * 5 := Nat.mul_le_mul_right _ (by omega); omega))
 obtain ⟨u0, y0⟩ := Option.isSome_iff_exists.1 (hth.out 0 (by decide))
 obtain ⟨u1, y1⟩ := Option.isSome_iff_exists.1 (hth.out 1 (by decide))
 obtain ⟨u2, y2⟩ := Option.isSome_iff_exists.1 (hth.out 2 (by decide))
 obtain ⟨u3, y3⟩ := Option.isSome_iff_exists.1 (hth.out 3 (by decide))
 obtain ⟨u4, y4⟩ := Option.isSome_iff_exists.1 (hth.out 4 (by decide))
 rw [Nat.add_zero] at y0
 have f0 := fun o => hown3.out.frozenAt o
 have c3 := box_at (j := 3) s7.out rfl
 have hmi : (m : Int) < (l.length : Int) := by omega
 have b0 := box_at (j := 0) s5.out rfl
 have b1 := box_at (j := 1) s5.out rfl
 have b2 := box_at (j := 2) s5.out rfl
 have b3 := box_at (j := 3) s5.out rfl
 have b4 := box_at (j := 4) s5.out rfl
 go_upto_region 4 with fail
 have hput : Hid (World.ownsRow (((((w3.setCell ⟨g, m * 5, none⟩ (.int .i64 uk)).setCell ⟨g, m * 5 + 1, none⟩ (.int .i64 un)).setCell ⟨g, m * 5 + 2, none⟩ (.string ut)).setCell ⟨g, m * 5 + 3, none⟩ (.slice ua ul uc)).setCell ⟨g, m * 5 + 4, none⟩ (.slice uf um ug)) W0.heap.size 25 5 (.slice (some ⟨g, 0, none⟩) l.length cap) l.length (css.set m [.int .i64 uk, .int .i64 un, .string ut, .slice ua ul uc, .slice uf um ug]).flatten) :=
  own_put (a := 0) (vs := [.int .i64 uk, .int .i64 un, .string ut, .slice ua ul uc, .slice uf um ug]) hown3.out hcll.out hc5.out hds.out rfl
 have hgr : Hid (w3.grownBy (((((w3.setCell ⟨g, m * 5, none⟩ (.int .i64 uk)).setCell ⟨g, m * 5 + 1, none⟩ (.int .i64 un)).setCell ⟨g, m * 5 + 2, none⟩ (.string ut)).setCell ⟨g, m * 5 + 3, none⟩ (.slice ua ul uc)).setCell ⟨g, m * 5 + 4, none⟩ (.slice uf um ug)) (some g)) := setCells_grown g [.int .i64 uk, .int .i64 un, .string ut, .slice ua ul uc, .slice uf um ug] (m * 5) w3
 clear y0 y1 y2 y3 y4 f0 c3 hth
 clear b0 b1 b2 b3 b4
 generalize ((((w3.setCell ⟨g, m * 5, none⟩ (.int .i64 uk)).setCell ⟨g, m * 5 + 1, none⟩ (.int .i64 un)).setCell ⟨g, m * 5 + 2, none⟩ (.string ut)).setCell ⟨g, m * 5 + 3, none⟩ (.slice ua ul uc)).setCell ⟨g, m * 5 + 4, none⟩ (.slice uf um ug) = w5 at *
 have D5 := hid (show Below w.heap.size w w5 from ⟨hgr.out.os.trans D3.out.os, hgr.out.tape.trans D3.out.tape, hgr.out.output.trans D3.out.output, Nat.le_trans D3.out.size hgr.out.size, fun k hk => (hgr.out.block k (Nat.lt_of_lt_of_le hk D3.out.size) (fun e => by injection e with e; have := hgw.out; omega)).trans (D3.out.block k hk)⟩)
 have p6 := hid ((hgr.out.block _ (lt_of_block s6.out) (fun e => by injection e with e; have := hgw.out; omega)).trans s6.out)
 have p7 := hid ((hgr.out.block _ (lt_of_block s7.out) (fun e => by injection e with e; have := hgw.out; omega)).trans s7.out)
 have hg5s := hid (Nat.lt_of_lt_of_le hgc.out hgr.out.size)
 have c0 := box_at (j := 0) p6.out rfl
 have c1 := box_at (j := 1) p6.out rfl
 have c2 := box_at (j := 2) p6.out rfl
 have c3 := box_at (j := 3) p6.out rfl
 have c4 := box_at (j := 4) p6.out rfl
 have f0 := box_free p6.out
 have d0 := box_at (j := 0) p7.out rfl
 have d1 := box_at (j := 1) p7.out rfl
 have d2 := box_at (j := 2) p7.out rfl
 have d3 := box_at (j := 3) p7.out rfl
 have d4 := box_at (j := 4) p7.out rfl
 go_wp2_with fail
 clear c0 c1 c2 c3 c4
 clear d0 d1 d2 d3 d4
 clear f0
 have hbz := hid (set5_below D5.out (Nat.le_add_right w.heap.size 2) (.int .i64 5) (.int .i64 0) (.string ⟨#[]⟩) (.slice (some ⟨g, 0, none⟩) l.length cap) (.slice none 0 0))
 have rz := hid (set5_box (u0 := .int .i64 5) (u1 := .int .i64 0) (u2 := .string ⟨#[]⟩) (u3 := .slice (some ⟨g, 0, none⟩) l.length cap) (u4 := .slice none 0 0) p6.out)
 have hkp := hid (fun b (hb : b ≠ w.heap.size + 2) => set5_other w5 (w.heap.size + 2) (.int .i64 5) (.int .i64 0) (.string ⟨#[]⟩) (.slice (some ⟨g, 0, none⟩) l.length cap) (.slice none 0 0) (b := b) hb)
 have hsz9 := hid (set5_size w5 (w.heap.size + 2) (.int .i64 5) (.int .i64 0) (.string ⟨#[]⟩) (.slice (some ⟨g, 0, none⟩) l.length cap) (.slice none 0 0))
 unfold set5 at hbz rz hkp hsz9
 generalize ((((w5.setCell ⟨w.heap.size + 2, 0, none⟩ (.int .i64 5)).setCell ⟨w.heap.size + 2, 1, none⟩ (.int .i64 0)).setCell ⟨w.heap.size + 2, 2, none⟩ (.string ⟨#[]⟩)).setCell ⟨w.heap.size + 2, 3, none⟩ (.slice (some ⟨g, 0, none⟩) l.length cap)).setCell ⟨w.heap.size + 2, 4, none⟩ (.slice none 0 0) = w9 at *
 have z0 := box_at (j := 0) rz.out rfl
 have z1 := box_at (j := 1) rz.out rfl
 have z2 := box_at (j := 2) rz.out rfl
 have z3 := box_at (j := 3) rz.out rfl
 have z4 := box_at (j := 4) rz.out rfl
 refine ⟨rfl, _, by simp [results, Tryz.results64, go_sem, z0, z1, z2, z3, z4] <;> exact ⟨rfl, rfl⟩, [.int .i64 5, .int .i64 0, .string ⟨#[]⟩, .slice (some ⟨g, 0, none⟩) l.length cap, .slice none 0 0], rfl, hbz.out, ?_⟩
 refine rd_listV (own_readL (A := W0.heap.size) (e := 25) (css := css.set m [.int .i64 uk, .int .i64 un, .string ut, .slice ua ul uc, .slice uf um ug]) ?_ (own_keep' (w := w5) ?_ ?_) ?_ ?_ ?_)
 ·rw [List.length_set, List.length_set, hcll.out]
 ·rw [List.length_set]; exact hput.out
 ·intro k' hk'
  obtain rfl : g = k' := by injection hk' with hk'
  exact hkp.out g (by have := hgw.out; omega)
 ·intro i x cs hx hc
  by_cases hi : i = m
  ·subst hi
   rw [List.getElem?_set_self hml] at hx
   rw [List.getElem?_set_self (by rw [hcll.out]; exact hml)] at hc
   obtain rfl := Option.some.inj hx
   obtain rfl := Option.some.inj hc
   exact hxr.out.keep (fun _ h => .inl h) (fun b hb => hbz.out.block b (hSw.out b hb))
  ·rw [List.getElem?_set_ne (Ne.symm hi)] at hx hc
   exact (hce.out i x cs hx hc).keep (fun _ h => .inl h) (fun b hb => hbz.out.block b (hSw.out b hb))
 ·intro b hb
  obtain rfl : g = b := by injection hb with hb
  exact .inr ⟨by have := hgw.out; omega, by rw [hsz9.out]; exact hg5s.out⟩
 ·have := hlm.out; rw [List.length_set]; omega
end Go.Proofs.YthjihdpleclejaaGreatDoor
namespace Go.Proofs.YthjihdpleclejaaGreatDoor
open Go.RowKit Go.Proofs
section
variable {α : Type} {P : α → List Value → Prop} {sz A B e : Nat}
theorem own_fixed {w w' : World} {xs : List α} {v : Value} (h : OwnG (fun (_ : World) (_ : Nat → Prop) (x : α) (cs : List Value) => P x cs) sz A B e w xs v) (ho : ∀ b, v.ownBlock = some b → w'.heap[b]? = w.heap[b]?) : OwnG (fun (_ : World) (_ : Nat → Prop) (x : α) (cs : List Value) => P x cs) sz A B e w' xs v := by
 obtain ⟨css, h1, h2, h3⟩ := h
 exact ⟨css, h1, own_keep' h2 ho, h3⟩
end
theorem fldFix {w : World} {S : Nat → Prop} : RowRel (fun (_ : World) (_ : Nat → Prop) (x : ByteArray × PVal) (cs : List Value) => RdFl w S x cs) 6 := ⟨fun _ _ h => h, fun h => fldRel.one h, fun h => fldRel.len h⟩
theorem own_fields {w0 w : World} {S S' : Nat → Prop} {A e : Nat} {fs : List (ByteArray × PVal)} {v : Value} (h : OwnG (fun (_ : World) (_ : Nat → Prop) (x : ByteArray × PVal) (cs : List Value) => RdFl w0 S x cs) 6 A 0 e w fs v) (hS : ∀ c, S c → S' c) (hk : ∀ c, S c → w.heap[c]? = w0.heap[c]?) (hb : ∀ b, v.ownBlock = some b → S' b) (hn : fs.length ≤ 1466015503701) : RdF w S' (fs.map Prod.fst) (fs.map Prod.snd) v := by
 obtain ⟨css, h1, h2, h3⟩ := h
 refine own_readF (by simp) (by simpa using h1) (by simpa using h2) (fun i nm x cs hn hx hc => ?_) hb (by simpa using hn)
 rw [List.getElem?_map] at hn hx
 obtain ⟨y, hy, rfl⟩ := Option.map_eq_some_iff.1 hn
 rw [hy] at hx
 obtain rfl : y.2 = x := by simpa using hx
 obtain ⟨ys, e1, e2, e3⟩ := h3 i y cs hy hc
 exact ⟨ys, e1, e2, e3.keep hS hk⟩
structure WQ (w0 W0 : World) (S : Nat → Prop) (g : Nat) (fs : List (ByteArray × PVal)) (vf : Value) (w : World) : Prop where
  row : w.heap[g]? = some (.cells #[.int .i64 6, .int .i64 0, .string ⟨#[]⟩, .slice none 0 0, vf] 25 (0, 0))
  own : OwnG (fun (_ : World) (_ : Nat → Prop) (x : ByteArray × PVal) (cs : List Value) => RdFl w0 S x cs) 6 W0.heap.size 0 54 w fs vf
  size : W0.heap.size ≤ w.heap.size
  rest : ∀ b, b < W0.heap.size → b ≠ g → w.heap[b]? = W0.heap[b]?
  os : w.os = W0.os
  tape : w.tape = W0.tape
  output : w.output = W0.output
  lo : w0.heap.size ≤ g
  hi : g < W0.heap.size
theorem WQ.below {w0 W0 w : World} {S : Nat → Prop} {g : Nat} {fs : List (ByteArray × PVal)} {vf : Value} (h : WQ w0 W0 S g fs vf w) (hb : Below w0.heap.size w0 W0) : Below w0.heap.size w0 w :=
 ⟨h.os.trans hb.os, h.tape.trans hb.tape, h.output.trans hb.output, Nat.le_trans hb.size h.size, fun k hk => (h.rest k (Nat.lt_of_lt_of_le hk hb.size) (by have := h.lo; omega)).trans (hb.block k hk)⟩
theorem WQ.push {w0 W0 wr wy w8 : World} {S : Nat → Prop} {g : Nat} {fs gs : List (ByteArray × PVal)} {vf v8 : Value} (h : WQ w0 W0 S g fs vf wr) (hy : Below wr.heap.size wr wy) (hown : OwnG (fun (_ : World) (_ : Nat → Prop) (x : ByteArray × PVal) (cs : List Value) => RdFl w0 S x cs) 6 W0.heap.size 0 54 w8 gs v8) (hg : wy.grownBy w8 vf.ownBlock) : WQ w0 W0 S g gs v8 (w8.setCell ⟨g, 4, none⟩ v8) := by
 have hlt := h.own.lt
 have hgw : g < wr.heap.size := Nat.lt_of_lt_of_le h.hi h.size
 have hk : ∀ b, b < W0.heap.size → w8.heap[b]? = wr.heap[b]? := fun b hb => by
  have h1 : b < wr.heap.size := Nat.lt_of_lt_of_le hb h.size
  exact (hg.block b (Nat.lt_of_lt_of_le h1 hy.size) (fun e => by have := (hlt b e.symm).1; omega)).trans (hy.block b h1)
 have hs : (w8.setCell ⟨g, 4, none⟩ v8).heap.size = w8.heap.size := by simp [World.setCell]
 refine ⟨row_setCell ((hk g h.hi).trans h.row), own_fixed hown (fun b hb => Below.heap_setCell _ _ _ _ (by have := (hown.lt b hb).1; have := h.hi; show b ≠ g; omega)), ?_, fun b hb hne => ?_, ?_, ?_, ?_, h.lo, h.hi⟩
 ·rw [hs]; exact Nat.le_trans h.size (Nat.le_trans hy.size hg.size)
 ·exact (Below.heap_setCell _ _ _ _ hne).trans ((hk b hb).trans (h.rest b hb hne))
 ·exact (hg.os.trans hy.os).trans h.os
 ·exact (hg.tape.trans hy.tape).trans h.tape
 ·exact (hg.output.trans hy.output).trans h.output
end Go.Proofs.YthjihdpleclejaaGreatDoor
