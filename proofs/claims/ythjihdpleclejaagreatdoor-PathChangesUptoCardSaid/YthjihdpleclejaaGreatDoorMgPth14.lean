/-
  Memory: rows of values and of fields, their cells, and what is laid into them.
  Walk: a List with a change below one of its values.
  Plain and memory: what a change at the end of steps is, arm by arm; a Doc read from its own row.
-/
import Derived.Test.YthjihdpleclejaaGreatDoorMgPth12
import Derived.Test.YthjihdpleclejaaGreatDoorMgPth13
import Derived.Test.YthjihdpleclejaaGreatDoorMgPth8
import Derived.Test.YthjihdpleclejaaGreatDoorMgPthP
import Derived.Test.YthjihdpleclejaaGreatDoorMgPth4
namespace Go.Proofs.YthjihdpleclejaaGreatDoor
open Go.RowKit Go.Proofs
theorem flat_at {α : Type} (m : Nat) (css : List (List α)) (h : ∀ cs ∈ css, cs.length = m) {i : Nat} {cs : List α} (hi : css[i]? = some cs) {k : Nat} (hk : k < m) : css.flatten[i * m + k]? = cs[k]? := by
 have h1 := flat_drop m css h i
 have h2 : css.flatten[i * m + k]? = (css.flatten.drop (i * m))[k]? := by rw [List.getElem?_drop]
 rw [h2, h1, List.drop_eq_getElem_cons (List.getElem?_eq_some_iff.1 hi).1, List.flatten_cons]
 have hc := h cs (List.mem_of_getElem? hi)
 rw [List.getElem?_append_left (by rw [(List.getElem?_eq_some_iff.1 hi).2, hc]; exact hk), (List.getElem?_eq_some_iff.1 hi).2]
theorem mem_range {n : Nat} {f : Nat → List Value} {cs : List Value} (h : cs ∈ (List.range n).map f) : ∃ i, i < n ∧ cs = f i := by
 obtain ⟨i, hi, rfl⟩ := List.mem_map.1 h
 exact ⟨i, List.mem_range.1 hi, rfl⟩
theorem at_range {n : Nat} {f : Nat → List Value} {i : Nat} {cs : List Value} (h : ((List.range n).map f)[i]? = some cs) : i < n ∧ cs = f i := by
 rw [List.getElem?_map] at h
 obtain ⟨j, hj, rfl⟩ := Option.map_eq_some_iff.1 h
 have hi := (List.getElem?_eq_some_iff.1 hj)
 obtain ⟨h1, h2⟩ := hi
 rw [List.length_range] at h1
 rw [List.getElem_range] at h2
 exact ⟨h1, by rw [h2]⟩
theorem rdL_lie {w : World} {S : Nat → Prop} {xs : List PVal} {a : Option Addr} {n c : Nat} (hS : ∀ b, S b → Now w b) (h : RdL w S xs (.slice a n c)) :
  ∃ css, css.length = xs.length ∧ LieAt w a 5 css ∧ (a = none → css.length = 0) ∧ ∀ (i : Nat) x cs, xs[i]? = some x → css[i]? = some cs → Rd w S x cs := by
 obtain ⟨la, cap, cs, e, h1, h2, h3, h4⟩ := h
 injection e with e1 e2 e3
 subst e1 e2 e3
 have hc : ∀ i, i < xs.length → Rd w S (xs.getD i zeroP) (cs i) := fun i hi => by
  refine h4 i _ ?_
  rw [List.getD_eq_getElem?_getD, List.getElem?_eq_getElem hi]; rfl
 refine ⟨(List.range xs.length).map cs, by simp, ⟨fun x hx => ?_, fun x hx u hu => ?_, ?_⟩, fun ha => ?_, fun i x ds hx hd => ?_⟩
 ·obtain ⟨i, hi, rfl⟩ := mem_range hx; exact (hc i hi).len
 ·obtain ⟨i, hi, rfl⟩ := mem_range hx; exact (hc i hi).one u hu
 ·rcases h3 with h0 | ⟨b, off, rfl, hb, hr⟩
  ·exact .inl (by rw [h0]; rfl)
  ·exact .inr ⟨b, off, rfl, hS b hb, fun i ds hd j v hv => by obtain ⟨hi, rfl⟩ := at_range hd; exact hr i hi j v hv⟩
 ·rcases h3 with h0 | ⟨b, off, e, _⟩
  ·simpa using h0
  ·rw [ha] at e; cases e
 ·obtain ⟨hi, rfl⟩ := at_range hd
  exact h4 i x hx
theorem rdF_lie {w : World} {S : Nat → Prop} {fn : List ByteArray} {fv : List PVal} {a : Option Addr} {n c : Nat} (hS : ∀ b, S b → Now w b) (h : RdF w S fn fv (.slice a n c)) :
  ∃ css, css.length = fv.length ∧ LieAt w a 6 css ∧ (a = none → css.length = 0) ∧ ∀ (i : Nat) nm x cs, fn[i]? = some nm → fv[i]? = some x → css[i]? = some cs → RdFl w S (nm, x) cs := by
 obtain ⟨hlen, hz, la, cap, cs, e, h1, h2, h3, h4⟩ := h
 injection e with e1 e2 e3
 subst e1 e2 e3
 have hc : ∀ i, i < fv.length → Rd w S (fv.getD i zeroP) (cs i) := fun i hi => by
  refine h4 i _ ?_
  rw [List.getD_eq_getElem?_getD, List.getElem?_eq_getElem hi]; rfl
 refine ⟨(List.range fv.length).map (fun i => .string (fn.getD i ByteArray.empty) :: cs i), by simp, ⟨fun x hx => ?_, fun x hx u hu => ?_, ?_⟩, fun ha => ?_, fun i nm x ds hn hx hd => ?_⟩
 ·obtain ⟨i, hi, rfl⟩ := mem_range hx; rw [List.length_cons, (hc i hi).len]
 ·obtain ⟨i, hi, rfl⟩ := mem_range hx
  rcases List.mem_cons.1 hu with rfl | hu
  ·rfl
  ·exact (hc i hi).one u hu
 ·rcases h3 with h0 | ⟨b, off, rfl, hb, hr⟩
  ·exact .inl (by rw [h0]; rfl)
  ·exact .inr ⟨b, off, rfl, hS b hb, fun i ds hd j v hv => by obtain ⟨hi, rfl⟩ := at_range hd; exact hr i hi j v hv⟩
 ·rcases h3 with h0 | ⟨b, off, e, _⟩
  ·simpa using h0
  ·rw [ha] at e; cases e
 ·obtain ⟨hi, rfl⟩ := at_range hd
  have hg : fn.getD i ByteArray.empty = nm := by rw [List.getD_eq_getElem?_getD, hn]; rfl
  exact ⟨cs i, by rw [hg], hz nm (List.mem_of_getElem? hn), h4 i x hx⟩
theorem own_readL {w : World} {S : Nat → Prop} {A e : Nat} {xs : List PVal} {v : Value} {css : List (List Value)} (hl : css.length = xs.length) (ho : w.ownsRow A e 5 v xs.length css.flatten) (hr : ∀ (i : Nat) x cs, xs[i]? = some x → css[i]? = some cs → Rd w S x cs) (hb : ∀ b, v.ownBlock = some b → S b) (hn : xs.length ≤ 1759218604441) : RdL w S xs v := by
 have hR : RowRel (fun (_ : World) (_ : Nat → Prop) (x : PVal) (cs : List Value) => Rd w S x cs) 5 := ⟨fun _ _ h => h, fun h => h.one, fun h => h.len⟩
 have h : OwnG (fun _ _ x cs => Rd w S x cs) 5 A 0 e w xs v := ⟨css, hl, ho, hr⟩
 rcases h.row hR with ⟨rfl, rfl⟩ | ⟨g, cap, rfl, h1, h2, h3, h4, cs, h5, h6⟩
 ·exact ⟨none, 0, fun _ => [], rfl, Nat.le_refl _, by simp, .inl rfl, fun i x hx => by simp at hx⟩
 ·exact ⟨some ⟨g, 0, none⟩, cap, cs, rfl, h1, ⟨by unfold maxLen at h2; omega, hn⟩, .inr ⟨g, 0, rfl, hb g rfl, h5⟩, fun i x hx => h6 i x hx⟩
theorem own_readF {w : World} {S : Nat → Prop} {A e : Nat} {fn : List ByteArray} {fv : List PVal} {v : Value} {css : List (List Value)} (hf : fn.length = fv.length) (hl : css.length = fv.length) (ho : w.ownsRow A e 6 v fv.length css.flatten) (hr : ∀ (i : Nat) nm x cs, fn[i]? = some nm → fv[i]? = some x → css[i]? = some cs → RdFl w S (nm, x) cs) (hb : ∀ b, v.ownBlock = some b → S b) (hn : fv.length ≤ 1466015503701) : RdF w S fn fv v := by
 have hR : RowRel (fun (_ : World) (_ : Nat → Prop) (x : ByteArray × PVal) (cs : List Value) => RdFl w S x cs) 6 := ⟨fun _ _ h => h, fun h => fldRel.one h, fun h => fldRel.len h⟩
 have hz0 : (fn.zip fv).length = fv.length := by rw [List.length_zip]; omega
 have h : OwnG (fun _ _ x cs => RdFl w S x cs) 6 A 0 e w (fn.zip fv) v := ⟨css, by rw [hz0, hl], by rw [hz0]; exact ho, fun i x cs hx hc => by
  obtain ⟨nm, y⟩ := x
  rw [List.getElem?_zip_eq_some] at hx
  exact hr i nm y cs hx.1 hx.2 hc⟩
 have hat : ∀ (i : Nat) nm x, fn[i]? = some nm → fv[i]? = some x → (fn.zip fv)[i]? = some (nm, x) := fun i nm x h1 h2 => by rw [List.getElem?_zip_eq_some]; exact ⟨h1, h2⟩
 have hnm : ∀ i, i < fv.length → ∃ nm x, fn[i]? = some nm ∧ fv[i]? = some x := fun i hi => ⟨_, _, List.getElem?_eq_getElem (by omega), List.getElem?_eq_getElem hi⟩
 have hz : ∀ a ∈ fn, a.size ≤ 140737488355328 := by
  intro a ha
  obtain ⟨i, hi⟩ := List.getElem?_of_mem ha
  obtain ⟨nm, x, e1, e2⟩ := hnm i (by have := (List.getElem?_eq_some_iff.1 hi).1; omega)
  obtain rfl : a = nm := by rw [hi] at e1; injection e1
  obtain ⟨cs, hcs⟩ : ∃ cs, css[i]? = some cs := ⟨_, List.getElem?_eq_getElem (by have := (List.getElem?_eq_some_iff.1 hi).1; omega)⟩
  obtain ⟨_, _, h2, _⟩ := hr i a x cs e1 e2 hcs
  exact h2
 refine ⟨hf, hz, ?_⟩
 rcases h.row hR with ⟨rfl, h0⟩ | ⟨g, cap, rfl, h1, h2, h3, h4, cs, h5, h6⟩
 ·have h0' : fv.length = 0 := by rw [← hz0, h0]; rfl
  obtain rfl : fv = [] := List.length_eq_zero_iff.1 h0'
  exact ⟨none, 0, fun _ => [], rfl, Nat.le_refl _, by simp, .inl rfl, fun i x hx => by simp at hx⟩
 ·rw [hz0] at h1 h5 ⊢
  refine ⟨some ⟨g, 0, none⟩, cap, fun i => (cs i).tail, rfl, h1, ⟨by unfold maxLen at h2; omega, hn⟩, .inr ⟨g, 0, rfl, hb g rfl, fun i hi j u hu => ?_⟩, fun i x hx => ?_⟩
  ·obtain ⟨nm, x, e1, e2⟩ := hnm i hi
   obtain ⟨ys, hc, _, _⟩ := h6 i _ (hat i nm x e1 e2)
   have hg : fn.getD i ByteArray.empty = nm := by rw [List.getD_eq_getElem?_getD, e1]; rfl
   refine h5 i hi j u ?_
   simp only [hg, hc, List.tail_cons] at hu
   rw [hc]
   exact hu
  ·obtain ⟨nm, x', e1, e2⟩ := hnm i (List.getElem?_eq_some_iff.1 hx).1
   obtain rfl : x = x' := by rw [hx] at e2; injection e2
   obtain ⟨ys, hc, _, hr⟩ := h6 i _ (hat i nm x e1 e2)
   simp only [hc, List.tail_cons]
   exact hr
theorem own_put {w : World} {base e sz g n cap : Nat} {css : List (List Value)} {i a : Nat} {cs vs : List Value} (h : w.ownsRow base e sz (.slice (some ⟨g, 0, none⟩) n cap) n css.flatten) (hl : css.length = n) (h6 : ∀ c ∈ css, c.length = sz) (hi : css[i]? = some cs) (ha : a + vs.length = sz) :
  (w.setCells g (i * sz + a) vs).ownsRow base e sz (.slice (some ⟨g, 0, none⟩) n cap) n (css.set i (cs.take a ++ vs)).flatten := by
 obtain ⟨hnc, hcm, hbg, _, cur, hcur, hcs⟩ := own_size h
 obtain ⟨cur2, hr2, hs2⟩ := setCells_row g e (0, 0) vs (i * sz + a) w cur hcur
 have hin : i < n := by rw [← hl]; exact (List.getElem?_eq_some_iff.1 hi).1
 have hci := h6 cs (List.mem_of_getElem? hi)
 have h6' : ∀ c ∈ css.set i (cs.take a ++ vs), c.length = sz := fun c hc => by
  rcases List.mem_or_eq_of_mem_set hc with hc | rfl
  ·exact h6 c hc
  ·rw [List.length_append, List.length_take]; omega
 have hms : (i + 1) * sz ≤ n * sz := Nat.mul_le_mul_right _ hin
 have hnm : n * sz ≤ cap * sz := Nat.mul_le_mul_right _ hnc
 rw [Nat.succ_mul] at hms
 refine own_of_cells hbg hr2 hnc (by unfold maxLen; omega) (by rw [hs2]; exact hcs) (by rw [flat_len sz _ h6', List.length_set, hl]) (fun j u hj => ?_)
 obtain ⟨i', k, cs', h1, h2, rfl⟩ := flat_get sz _ h6' j u hj
 have hk : k < sz := by rw [← h6' cs' (List.mem_of_getElem? h1)]; exact (List.getElem?_eq_some_iff.1 h2).1
 have hold : ∀ c, css[i']? = some c → w.cell? ⟨g, i' * sz + k, none⟩ = c[k]? := fun c hc => by
  have hi' : i' < n := by rw [← hl]; exact (List.getElem?_eq_some_iff.1 hc).1
  have hb : (i' + 1) * sz ≤ n * sz := Nat.mul_le_mul_right _ hi'
  rw [Nat.succ_mul] at hb
  rw [h.cellAt _ (by omega), flat_at sz css h6 hc hk]
 by_cases he : i' = i
 ·subst he
  rw [List.getElem?_set_self (by rw [hl]; exact hin)] at h1
  obtain rfl := Option.some.inj h1
  by_cases hka : k < a
  ·rw [World.cell?_setCells_out g vs _ w ⟨g, i' * sz + k, none⟩ (fun _ _ => .inl (by show i' * sz + k < i' * sz + a; omega)), hold cs hi]
   rw [List.getElem?_append_left (by rw [List.length_take]; omega), List.getElem?_take, if_pos hka] at h2
   exact h2
  ·rw [List.getElem?_append_right (by rw [List.length_take]; omega)] at h2
   have hta : (cs.take a).length = a := by rw [List.length_take]; omega
   rw [hta] at h2
   have hkv := List.getElem?_eq_some_iff.1 h2
   rw [show i' * sz + k = i' * sz + a + (k - a) by omega, World.cell?_setCells_in g vs _ w (fun t ht => own_there h (by omega)) (k - a) hkv.1, ← hkv.2]
 ·rw [List.getElem?_set_ne (by omega)] at h1
  rw [World.cell?_setCells_out g vs _ w ⟨g, i' * sz + k, none⟩ (fun _ _ => ?_), hold cs' h1]
  ·exact h2
  ·show i' * sz + k < i * sz + a ∨ i * sz + a + vs.length ≤ i' * sz + k
   rcases Nat.lt_or_gt_of_ne he with hlt | hgt
   ·have : (i' + 1) * sz ≤ i * sz := Nat.mul_le_mul_right _ hlt
    rw [Nat.succ_mul] at this
    left; omega
   ·have : (i + 1) * sz ≤ i' * sz := Nat.mul_le_mul_right _ hgt
    rw [Nat.succ_mul] at this
    right; omega
end Go.Proofs.YthjihdpleclejaaGreatDoor
namespace Go.Proofs.YthjihdpleclejaaGreatDoor
open Go.RowKit Go.Proofs
theorem own_keep' {w w' : World} {base e sz n : Nat} {v : Value} {xs : List Value} (h : w.ownsRow base e sz v n xs) (hb : ∀ k, v.ownBlock = some k → w'.heap[k]? = w.heap[k]?) : w'.ownsRow base e sz v n xs := by
 obtain ⟨h1, h2⟩ := h
 refine ⟨h1, ?_⟩
 rcases h2 with h2 | ⟨g, cap, cur, rfl, h3, h4, h5⟩
 ·exact .inl h2
 ·exact .inr ⟨g, cap, cur, rfl, h3, (hb g rfl).trans h4, h5⟩
theorem own_some {w : World} {base e sz n : Nat} {v : Value} {xs : List Value} (h : w.ownsRow base e sz v n xs) (hn : 0 < n) : ∃ g cap, v = .slice (some ⟨g, 0, none⟩) n cap := by
 obtain ⟨_, ⟨_, h2⟩ | ⟨g, cap, cur, rfl, _⟩⟩ := h
 ·omega
 ·exact ⟨g, cap, rfl⟩
theorem len_massL (l : List PVal) : l.length ≤ massL l := by
 induction l with
 | nil => simp [massL]
 | cons x r ih =>
  obtain ⟨k, n, s, l, fn, fv⟩ := x
  simp only [massL, PVal.mass, List.length_cons]; omega
def Told (S : Nat → Prop) (q : Chg) (w : World) (e : Ending) (w' : World) : Prop :=
 ∃ cs, e = .returned (.tuple #[.agg cs.toArray, .bool q.gone, .int .i64 q.e]) ∧ Below w.heap.size w w' ∧ Rd w' (fun c => S c ∨ From w.heap.size w' c) q.v cs
def Turns (S : Nat → Prop) (W : World) (kf : FuncId) (caps : Array Value) (tf : PVal → Chg) : Prop :=
 ∀ (y : PVal) (w : World) (cs : List Value) (b : Bool), Below W.heap.size W w → y.mass ≤ 1000000000000 → Rd w S y cs → Calls Tryz.prog kf (#[.agg cs.toArray, .bool b] ++ caps) w (Told S (tf y) w)
def AtC (S : Nat → Prop) (W : World) (kf : FuncId) (caps : Array Value) (tf : PVal → Chg) (lays : Bool) (r : List ByteArray) : Prop :=
 ∀ (V : PVal) (w : World) (cs : List Value) (b : Bool) (sv : Value), Below W.heap.size W w → Sound V → V.mass ≤ 1000000000000 → Rd w S V cs → StrsAt w (Now w) r sv →
  Calls Tryz.prog 44 #[.agg #[.func (.func kf) #[] caps, .bool lays], .agg cs.toArray, .bool b, sv] w (Told S (atP tf lays V r) w)
def RwS (B g o : Nat) (fv bv v0 v1 v2 v3 v4 : Value) (x : World) : Prop := x.cell? ⟨B, 0, none⟩ = some fv ∧ x.cell? ⟨B, 1, none⟩ = some bv ∧ x.cell? ⟨g, o, none⟩ = some v0 ∧ x.cell? ⟨g, o + 1, none⟩ = some v1 ∧ x.cell? ⟨g, o + 2, none⟩ = some v2 ∧ x.cell? ⟨g, o + 3, none⟩ = some v3 ∧ x.cell? ⟨g, o + 4, none⟩ = some v4
theorem rd_listV {w : World} {S : Nat → Prop} {l : List PVal} {vl : Value} (hL : RdL w S l vl) : Rd w S (listV l) [.int .i64 5, .int .i64 0, .string ByteArray.empty, vl, .slice none 0 0] :=
 rd_mk ⟨by decide, by decide⟩ ⟨by decide, by decide⟩ (by decide) hL rdF_nil
set_option maxRecDepth 100000 in
set_option maxHeartbeats 8000000 in
theorem within_calls {S : Nat → Prop} {W : World} {kf : FuncId} {caps : Array Value} {tf : PVal → Chg} {lays : Bool} {r : List ByteArray} (hSW : ∀ c, S c → c < W.heap.size) (hat : AtC S W kf caps tf lays r)
    {V y : PVal} {m : Nat} {s : ByteArray} {sv : Value} {w : World} {cs : List Value} (hW : Below W.heap.size W w) (hso : Sound V) (hm : V.mass ≤ 1000000000000) (hV : Rd w S V cs) (hk5 : V.k = 5) (hy : V.l[m]? = some y) (hss : StrsAt w (Now w) (s :: r) sv) :
    Calls Tryz.prog 67 #[.agg #[.func (.func kf) #[] caps, .bool lays], .agg cs.toArray, .int .i64 m, sv] w (Told S (atL V m (atP tf lays y r)) w) := by
  unfold AtC Told at hat
  unfold Told atL
  have hsy := hid (hso.part (x := y) (by obtain ⟨k, n, t, l, fn, fv⟩ := V; simp only [PVal.l, PVal.k] at *; simp only [PVal.parts, hk5, if_pos]; exact List.mem_of_getElem? hy))
  have hmy := hid (show y.mass ≤ 1000000000000 from by have h1 := mass_mem (List.mem_of_getElem? hy); have h2 := mass_l V; omega)
  have hlm := hid (show V.l.length ≤ 1000000000000 from by have h1 := len_massL V.l; have h2 := mass_l V; omega)
  obtain ⟨q, hq⟩ : ∃ q, q = atP tf lays y r := ⟨_, rfl⟩
  have hay := hid (fun w cs b sv h1 h2 h3 => hat y w cs b sv h1 hsy.out hmy.out h2 h3)
  rw [← hq] at hay ⊢
  clear hat hq hso hm hsy
  obtain ⟨qv, qg, qe⟩ := q
  have hSw := hid (fun c (h : S c) => Nat.lt_of_lt_of_le (hSW c h) hW.size)
  replace hW := hid hW
  obtain ⟨k, n, str, l, fn, fv⟩ := V
  simp only [PVal.l] at hy hlm ⊢
  obtain ⟨la, lc, fa, fc, rfl, _, _, _, _, _, _, _, hLr, _⟩ := hV.inv
  obtain ⟨css, hcl, hlie, hln, hce⟩ := rdL_lie (fun b h => hSw.out b h) hLr
  have hml : m < l.length := (List.getElem?_eq_some_iff.1 hy).1
  obtain ⟨ds, hds⟩ : ∃ ds, css[m]? = some ds := ⟨_, List.getElem?_eq_getElem (by omega)⟩
  have hyr := hce m y ds hy hds
  obtain ⟨xk, xn, xt, xl, xfn, xfv⟩ := y
  obtain ⟨ya, yc, za, zc, rfl, _⟩ := hyr.inv
  replace hyr := hid hyr
  have hc5 := hid hlie.1
  have hc1 := hid hlie.2.1
  have hcll := hid hcl
  have hcl9 := hid (fun w' (h : Below w.heap.size w w') => cloneV_calls (c := lc) (hlie.later h) hln (by rw [hcl]; exact hlm.out))
  rw [hcl] at hcl9
  replace hce := hid hce
  replace hds := hid hds
  clear hlie hln hLr hV hcl hy
  obtain ⟨sa, sc, rfl, _⟩ := id hss
  obtain ⟨sb, so, rfl, hn1, hsc1, hsc2, hsb, hsc⟩ := hss.head
  have hss0 := hid hss
  replace hsc := hid hsc
  replace hsb := hid hsb
  clear hss hn1
  simp only [List.length_cons] at hss0 ⊢
  obtain ⟨W0, hW0⟩ : ∃ W0, W0 = ((w.alloc (.cells #[.func (.func kf) #[] caps, .bool lays] 50)).alloc (.cells #[.int .i64 k, .int .i64 n, .string str, .slice la l.length lc, .slice fa fv.length fc] 25)).alloc (.cells #[.int .i64 0, .int .i64 0, .string ⟨#[]⟩, .slice none 0 0, .slice none 0 0] 25) := ⟨_, rfl⟩
  have D : Hid (Below w.heap.size w W0) := by show Below _ _ _; rw [hW0]; exact ((below_new _ _).step (below_new _ _)).step (below_new _ _)
  have r0 : Hid (W0.heap[w.heap.size]? = some (.cells #[.func (.func kf) #[] caps, .bool lays] 50 (0, 0))) := by show _ = _; rw [hW0]; exact al_old (al_old (al_at rfl))
  have r1 : Hid (W0.heap[w.heap.size + 1]? = some (.cells #[.int .i64 k, .int .i64 n, .string str, .slice la l.length lc, .slice fa fv.length fc] 25 (0, 0))) := by show _ = _; rw [hW0]; exact al_old (al_at (by simp))
  have r2 : Hid (W0.heap[w.heap.size + 2]? = some (.cells #[.int .i64 0, .int .i64 0, .string ⟨#[]⟩, .slice none 0 0, .slice none 0 0] 25 (0, 0))) := by show _ = _; rw [hW0]; exact al_at (by simp)
  have hW0s : Hid (W0.heap.size = w.heap.size + 3) := by show _ = _; rw [hW0]; simp
  go_enter Tryz.func67, Tryz.ntmps67
  go_upto_region 1 with fail
  rw [← hW0]
  clear hW0
  have b3 := box_at (j := 3) r1.out rfl
  go_wp2_with fail
  clear b3
  refine (hcl9.out _ D.out).mono ?_
  rintro e w1 ⟨v1, rfl, h1, hown⟩
  obtain ⟨g, cap, rfl⟩ := own_some hown (by omega)
  have D1 := hid (D.out.step h1)
  have q0 := hid ((h1.block _ (lt_of_block r0.out)).trans r0.out)
  have q2 := hid ((h1.block _ (lt_of_block r2.out)).trans r2.out)
  have hgl := hid (hown.lt g rfl)
  have hkc : Hid (∀ j u, [Value.int .i64 xk, .int .i64 xn, .string xt, .slice ya xl.length yc, .slice za xfv.length zc][j]? = some u → j < 5 → w1.cell? ⟨g, m * 5 + j, none⟩ = some u) := fun j u hu hj => by
    have hmm : (m + 1) * 5 ≤ l.length * 5 := Nat.mul_le_mul_right _ hml
    rw [hown.cellAt _ (by omega), flat_at 5 css hc5.out hds.out hj]
    exact hu
  have hS9 : Hid (∀ x : World, (∀ b, b < w1.heap.size → x.heap[b]? = w1.heap[b]?) → RwS w.heap.size g (m * 5) (.func (.func kf) #[] caps) (.bool lays) (.int .i64 xk) (.int .i64 xn) (.string xt) (.slice ya xl.length yc) (.slice za xfv.length zc) x) := fun x h => by
    have hB := (h _ (lt_of_block q0.out)).trans q0.out
    have hg := h g hgl.out.2
    exact ⟨box_at (j := 0) hB rfl, box_at (j := 1) hB rfl, (World.cell?_of_block (w := w1) (a := ⟨g, m * 5, none⟩) hg).trans (hkc.out 0 _ rfl (by decide)), (World.cell?_of_block (w := w1) (a := ⟨g, m * 5 + 1, none⟩) hg).trans (hkc.out 1 _ rfl (by decide)), (World.cell?_of_block (w := w1) (a := ⟨g, m * 5 + 2, none⟩) hg).trans (hkc.out 2 _ rfl (by decide)), (World.cell?_of_block (w := w1) (a := ⟨g, m * 5 + 3, none⟩) hg).trans (hkc.out 3 _ rfl (by decide)), (World.cell?_of_block (w := w1) (a := ⟨g, m * 5 + 4, none⟩) hg).trans (hkc.out 4 _ rfl (by decide))⟩
  have hWy := hid (fun w' (h : Below w1.heap.size w1 w') => (hW.out.trans ((D1.out.step h).mono hW.out.size)))
  have hyk := hid (fun w' (h : Below w1.heap.size w1 w') => hyr.out.keep (w' := w') (S' := S) (fun _ h => h) (fun b hb => (D1.out.step h).block b (hSw.out b hb)))
  have hsk := hid (fun w' (h : Below w1.heap.size w1 w') => hss0.out.later (D1.out.step h))
  replace hown := hid hown
  clear h1 hkc
  have hmi : (m : Int) < (l.length : Int) := by omega
  have hr1 : (1 : Int) ≤ (r.length : Int) + 1 := by omega
  go_upto_region 2 with fail
  go_cut [12, 13, 14] from 18 to 29 (fun s12 s13 s14 wx => ∃ (gx : Nat) (v0 v1 v2 v3 v4 : Value), s12 = .pointer (some ⟨gx, 0, none⟩) ∧ s13 = .bool qg ∧ s14 = .int .i64 qe ∧ wx.heap[gx]? = some (.cells #[v0, v1, v2, v3, v4] 25 (0, 0)) ∧ w1.heap.size ≤ gx ∧ Rd wx (fun c => S c ∨ From w1.heap.size wx c) qv [v0, v1, v2, v3, v4] ∧ Below w1.heap.size w1 wx)
  case first =>
    by_cases hc1 : sc = 1
    · subst hc1
      obtain rfl : r = [] := List.length_eq_zero_iff.1 (by omega)
      simp only [List.length_nil] at hr1
      refine wp_region_T (RwS w.heap.size g (m * 5) (.func (.func kf) #[] caps) (.bool lays) (.int .i64 xk) (.int .i64 xn) (.string xt) (.slice ya xl.length yc) (.slice za xfv.length zc)) 16 (by kernel_rfl) ?_
      have hT0 := hS9.out w1.drew (fun _ _ => rfl)
      ((refine wpAnyT_take (i := 0) (v := ?_) rfl (by kernel_rfl) (by kernel_rfl) (by kernel_rfl) (by kernel_rfl) (by exact fun _ _ _ h => h) (Or.inl ⟨by kernel_rfl, ?_⟩) hT0 ?_; rotate_left 1; focus (intro w hSw; unfold RwS at hSw; (try dsimp only at hSw); go_simp; try with_reducible rfl); (try simp only [List.getElem_toArray, List.getElem_cons_zero, List.getElem_cons_succ, Act.put, List.setIfInBounds_toArray, List.set_cons_zero, List.set_cons_succ])); (refine wpAnyT_take (i := 1) (v := ?_) rfl (by kernel_rfl) (by kernel_rfl) (by kernel_rfl) (by kernel_rfl) (by exact fun _ _ _ h => h) (Or.inl ⟨by kernel_rfl, ?_⟩) hT0 ?_; rotate_left 1; focus (intro w hSw; unfold RwS at hSw; (try dsimp only at hSw); go_simp; try with_reducible rfl); (try simp only [List.getElem_toArray, List.getElem_cons_zero, List.getElem_cons_succ, Act.put, List.setIfInBounds_toArray, List.set_cons_zero, List.set_cons_succ])); (refine wpAnyT_take (i := 2) (v := ?_) rfl (by kernel_rfl) (by kernel_rfl) (by kernel_rfl) (by kernel_rfl) (by exact fun _ _ _ h => h) (Or.inl ⟨by kernel_rfl, ?_⟩) hT0 ?_; rotate_left 1; focus (intro w hSw; unfold RwS at hSw; (try dsimp only at hSw); go_simp; try with_reducible rfl); (try simp only [List.getElem_toArray, List.getElem_cons_zero, List.getElem_cons_succ, Act.put, List.setIfInBounds_toArray, List.set_cons_zero, List.set_cons_succ])); (refine wpAnyT_take (i := 3) (v := ?_) rfl (by kernel_rfl) (by kernel_rfl) (by kernel_rfl) (by kernel_rfl) (by exact fun _ _ _ h => h) (Or.inl ⟨by kernel_rfl, ?_⟩) hT0 ?_; rotate_left 1; focus (intro w hSw; unfold RwS at hSw; (try dsimp only at hSw); go_simp; try with_reducible rfl); (try simp only [List.getElem_toArray, List.getElem_cons_zero, List.getElem_cons_succ, Act.put, List.setIfInBounds_toArray, List.set_cons_zero, List.set_cons_succ])); (refine wpAnyT_take (i := 4) (v := ?_) rfl (by kernel_rfl) (by kernel_rfl) (by kernel_rfl) (by kernel_rfl) (by exact fun _ _ _ h => h) (Or.inl ⟨by kernel_rfl, ?_⟩) hT0 ?_; rotate_left 1; focus (intro w hSw; unfold RwS at hSw; (try dsimp only at hSw); go_simp; try with_reducible rfl); (try simp only [List.getElem_toArray, List.getElem_cons_zero, List.getElem_cons_succ, Act.put, List.setIfInBounds_toArray, List.set_cons_zero, List.set_cons_succ])); (refine wpAnyT_take (i := 5) (v := ?_) rfl (by kernel_rfl) (by kernel_rfl) (by kernel_rfl) (by kernel_rfl) (by exact fun _ _ _ h => h) (Or.inl ⟨by kernel_rfl, ?_⟩) hT0 ?_; rotate_left 1; focus (intro w hSw; unfold RwS at hSw; (try dsimp only at hSw); go_simp; try with_reducible rfl); (try simp only [List.getElem_toArray, List.getElem_cons_zero, List.getElem_cons_succ, Act.put, List.setIfInBounds_toArray, List.set_cons_zero, List.set_cons_succ])); (refine wpAnyT_take (i := 6) (v := ?_) rfl (by kernel_rfl) (by kernel_rfl) (by kernel_rfl) (by kernel_rfl) (by exact fun _ _ _ h => h) (Or.inl ⟨by kernel_rfl, ?_⟩) hT0 ?_; rotate_left 1; focus (intro w hSw; unfold RwS at hSw; (try dsimp only at hSw); go_simp; try with_reducible rfl); (try simp only [List.getElem_toArray, List.getElem_cons_zero, List.getElem_cons_succ, Act.put, List.setIfInBounds_toArray, List.set_cons_zero, List.set_cons_succ])))
      refine wpAnyT_two (i := 7) (j := 12) (by kernel_rfl) rfl rfl (fun K hK => ?_) (fun K hK => ?_)
      · go_simp
        refine (hay.out w1.drew _ _ _ (hWy.out _ (Below.refl w1.heap.size w1).drew) (hyk.out _ (Below.refl w1.heap.size w1).drew) (StrsAt.none_left (by omega))).mono ?_
        rintro e w4 ⟨cs4, rfl, h4, hr4⟩
        have E := hid ((Below.refl w1.heap.size w1).drew.step h4)
        have hT1 := hS9.out _ E.out.block
        obtain ⟨zk, zn, zt, zl, zfn, zfv⟩ := qv
        obtain ⟨qa, qc, pa, pc, rfl, _⟩ := hr4.inv
        replace hr4 := hid hr4
        clear h4 hT0
        (refine hK.out _ _ (fun _ => hT1) (fun _ => ?_); clear hK K; (try simp only [Act.put, List.setIfInBounds_toArray, List.set_cons_zero, List.set_cons_succ]))
        ((refine wpAnyT_take (i := 8) (v := ?_) rfl (by kernel_rfl) (by kernel_rfl) (by kernel_rfl) (by kernel_rfl) (by exact fun _ _ _ h => h) (Or.inl ⟨by kernel_rfl, ?_⟩) hT1 ?_; rotate_left 1; focus (intro w hSw; unfold RwS at hSw; (try dsimp only at hSw); go_simp; try with_reducible rfl); (try simp only [List.getElem_toArray, List.getElem_cons_zero, List.getElem_cons_succ, Act.put, List.setIfInBounds_toArray, List.set_cons_zero, List.set_cons_succ])); (refine wpAnyT_take (i := 9) (v := ?_) rfl (by kernel_rfl) (by kernel_rfl) (by kernel_rfl) (by kernel_rfl) (by exact fun _ _ _ h => h) (Or.inl ⟨by kernel_rfl, ?_⟩) hT1 ?_; rotate_left 1; focus (intro w hSw; unfold RwS at hSw; (try dsimp only at hSw); go_simp; try with_reducible rfl); (try simp only [List.getElem_toArray, List.getElem_cons_zero, List.getElem_cons_succ, Act.put, List.setIfInBounds_toArray, List.set_cons_zero, List.set_cons_succ])); (refine wpAnyT_take (i := 10) (v := ?_) rfl (by kernel_rfl) (by kernel_rfl) (by kernel_rfl) (by kernel_rfl) (by exact fun _ _ _ h => h) (Or.inl ⟨by kernel_rfl, ?_⟩) hT1 ?_; rotate_left 1; focus (intro w hSw; unfold RwS at hSw; (try dsimp only at hSw); go_simp; try with_reducible rfl); (try simp only [List.getElem_toArray, List.getElem_cons_zero, List.getElem_cons_succ, Act.put, List.setIfInBounds_toArray, List.set_cons_zero, List.set_cons_succ])); (refine wpAnyT_take (i := 11) (v := ?_) rfl (by kernel_rfl) (by kernel_rfl) (by kernel_rfl) (by kernel_rfl) (by exact fun _ _ _ h => h) (Or.inl ⟨by kernel_rfl, ?_⟩) hT1 ?_; rotate_left 1; focus (intro w hSw; unfold RwS at hSw; (try dsimp only at hSw); go_simp; try with_reducible rfl); (try simp only [List.getElem_toArray, List.getElem_cons_zero, List.getElem_cons_succ, Act.put, List.setIfInBounds_toArray, List.set_cons_zero, List.set_cons_succ])))
        refine wpAnyT_one (i := 12) (by kernel_rfl) rfl (fun K hK => ?_)
        go_simp
        have E2 := hid (E.out.step (below_new w4 (.cells #[.int .i64 0, .int .i64 0, .string ⟨#[]⟩, .slice none 0 0, .slice none 0 0] 25)))
        have hT2 := hS9.out _ E2.out.block
        clear hT1
        (refine hK.out _ _ (fun _ => hT2) (fun _ => ?_); clear hK K; (try simp only [Act.put, List.setIfInBounds_toArray, List.set_cons_zero, List.set_cons_succ]))
        refine wpAnyT_one (i := 13) (by kernel_rfl) rfl (fun K hK => ?_)
        go_simp
        have E3 := hid (E.out.step (below_new w4 (.cells #[.int .i64 zk, .int .i64 zn, .string zt, .slice qa zl.length qc, .slice pa zfv.length pc] 25)))
        have hT3 := hS9.out _ E3.out.block
        clear hT2
        (refine hK.out _ _ (fun _ => hT3) (fun _ => ?_); clear hK K; (try simp only [Act.put, List.setIfInBounds_toArray, List.set_cons_zero, List.set_cons_succ]))
        refine wpAnyT_one (i := 14) (by kernel_rfl) rfl (fun K hK => ?_)
        go_simp
        (refine hK.out _ _ (fun _ => hT3) (fun _ => ?_); clear hK K; (try simp only [Act.put, List.setIfInBounds_toArray, List.set_cons_zero, List.set_cons_succ]))
        refine wpAnyT_one (i := 15) (by kernel_rfl) rfl (fun K hK => ?_)
        go_simp
        (refine hK.out _ _ (fun _ => hT3) (fun _ => ?_); clear hK K; (try simp only [Act.put, List.setIfInBounds_toArray, List.set_cons_zero, List.set_cons_succ]))
        refine wpAnyT_done (by kernel_rfl) ?_ _
        go_wp2_with fail
        go_meet
        exact ⟨_, _, _, _, _, _, rfl, rfl, rfl, heap_alloc_new w4 _, E.out.size, hr4.out.keep (fun c h => h.imp id (fun h => ⟨h.1, Nat.lt_of_lt_of_le h.2 (below_new w4 _).size⟩)) (fun b hb => (below_new w4 _).block b (hb.elim (fun h => Nat.lt_of_lt_of_le (hSw.out b h) (Nat.le_trans D1.out.size E.out.size)) (fun h => h.2))), E3.out⟩
      · go_simp
        obtain ⟨wg, hwg⟩ : ∃ wg, wg = w1.alloc (.cells #[.int .i64 0, .int .i64 0, .string ⟨#[]⟩, .slice none 0 0, .slice none 0 0] 25) := ⟨_, rfl⟩
        have E1 : Hid (Below w1.heap.size w1 wg) := by show Below _ _ _; rw [hwg]; exact below_new _ _
        have gz : Hid (wg.heap[w1.heap.size]? = some (.cells #[.int .i64 0, .int .i64 0, .string ⟨#[]⟩, .slice none 0 0, .slice none 0 0] 25 (0, 0))) := by show _ = _; rw [hwg]; exact heap_alloc_new _ _
        have gs : Hid (wg.heap.size = w1.heap.size + 1) := by show _ = _; rw [hwg]; simp
        rw [← hwg]
        clear hwg
        have hT1 := hS9.out wg.drew E1.out.block
        clear hT0
        (refine hK.out _ _ (fun _ => hT1) (fun _ => ?_); clear hK K; (try simp only [Act.put, List.setIfInBounds_toArray, List.set_cons_zero, List.set_cons_succ]))
        refine wpAnyT_one (i := 7) (by kernel_rfl) rfl (fun K hK => ?_)
        go_simp
        refine (hay.out wg.drew _ _ _ (hWy.out _ (E1.out.step (Below.refl wg.heap.size wg).drew)) (hyk.out _ (E1.out.step (Below.refl wg.heap.size wg).drew)) (StrsAt.none_left (by omega))).mono ?_
        rintro e w4 ⟨cs4, rfl, h4, hr4⟩
        have E := hid (E1.out.step ((Below.refl wg.heap.size wg).drew.step h4))
        have g4 := hid (((Below.refl wg.heap.size wg).drew.step h4).block _ (lt_of_block gz.out) |>.trans gz.out)
        have hT2 := hS9.out _ E.out.block
        obtain ⟨zk, zn, zt, zl, zfn, zfv⟩ := qv
        obtain ⟨qa, qc, pa, pc, rfl, _⟩ := hr4.inv
        replace hr4 := hid hr4
        clear h4 hT1
        (refine hK.out _ _ (fun _ => hT2) (fun _ => ?_); clear hK K; (try simp only [Act.put, List.setIfInBounds_toArray, List.set_cons_zero, List.set_cons_succ]))
        ((refine wpAnyT_take (i := 8) (v := ?_) rfl (by kernel_rfl) (by kernel_rfl) (by kernel_rfl) (by kernel_rfl) (by exact fun _ _ _ h => h) (Or.inl ⟨by kernel_rfl, ?_⟩) hT2 ?_; rotate_left 1; focus (intro w hSw; unfold RwS at hSw; (try dsimp only at hSw); go_simp; try with_reducible rfl); (try simp only [List.getElem_toArray, List.getElem_cons_zero, List.getElem_cons_succ, Act.put, List.setIfInBounds_toArray, List.set_cons_zero, List.set_cons_succ])); (refine wpAnyT_take (i := 9) (v := ?_) rfl (by kernel_rfl) (by kernel_rfl) (by kernel_rfl) (by kernel_rfl) (by exact fun _ _ _ h => h) (Or.inl ⟨by kernel_rfl, ?_⟩) hT2 ?_; rotate_left 1; focus (intro w hSw; unfold RwS at hSw; (try dsimp only at hSw); go_simp; try with_reducible rfl); (try simp only [List.getElem_toArray, List.getElem_cons_zero, List.getElem_cons_succ, Act.put, List.setIfInBounds_toArray, List.set_cons_zero, List.set_cons_succ])); (refine wpAnyT_take (i := 10) (v := ?_) rfl (by kernel_rfl) (by kernel_rfl) (by kernel_rfl) (by kernel_rfl) (by exact fun _ _ _ h => h) (Or.inl ⟨by kernel_rfl, ?_⟩) hT2 ?_; rotate_left 1; focus (intro w hSw; unfold RwS at hSw; (try dsimp only at hSw); go_simp; try with_reducible rfl); (try simp only [List.getElem_toArray, List.getElem_cons_zero, List.getElem_cons_succ, Act.put, List.setIfInBounds_toArray, List.set_cons_zero, List.set_cons_succ])); (refine wpAnyT_take (i := 11) (v := ?_) rfl (by kernel_rfl) (by kernel_rfl) (by kernel_rfl) (by kernel_rfl) (by exact fun _ _ _ h => h) (Or.inl ⟨by kernel_rfl, ?_⟩) hT2 ?_; rotate_left 1; focus (intro w hSw; unfold RwS at hSw; (try dsimp only at hSw); go_simp; try with_reducible rfl); (try simp only [List.getElem_toArray, List.getElem_cons_zero, List.getElem_cons_succ, Act.put, List.setIfInBounds_toArray, List.set_cons_zero, List.set_cons_succ])))
        have c0 := box_at (j := 0) g4.out rfl
        have c1 := box_at (j := 1) g4.out rfl
        have c2 := box_at (j := 2) g4.out rfl
        have c3 := box_at (j := 3) g4.out rfl
        have c4 := box_at (j := 4) g4.out rfl
        have f0 := box_free g4.out
        refine wpAnyT_one (i := 13) (by kernel_rfl) rfl (fun K hK => ?_)
        go_simp
        clear c0 c1 c2 c3 c4
        clear f0
        have hbz := hid (set5_below E.out (Nat.le_refl _) (.int .i64 zk) (.int .i64 zn) (.string zt) (.slice qa zl.length qc) (.slice pa zfv.length pc))
        have rz := hid (set5_box (u0 := .int .i64 zk) (u1 := .int .i64 zn) (u2 := .string zt) (u3 := .slice qa zl.length qc) (u4 := .slice pa zfv.length pc) g4.out)
        have hkp := hid (fun b (hb : b ≠ w1.heap.size) => set5_other w4 (w1.heap.size) (.int .i64 zk) (.int .i64 zn) (.string zt) (.slice qa zl.length qc) (.slice pa zfv.length pc) (b := b) hb)
        have hsz9 := hid (set5_size w4 (w1.heap.size) (.int .i64 zk) (.int .i64 zn) (.string zt) (.slice qa zl.length qc) (.slice pa zfv.length pc))
        unfold set5 at hbz rz hkp hsz9
        generalize ((((w4.setCell ⟨w1.heap.size, 0, none⟩ (.int .i64 zk)).setCell ⟨w1.heap.size, 1, none⟩ (.int .i64 zn)).setCell ⟨w1.heap.size, 2, none⟩ (.string zt)).setCell ⟨w1.heap.size, 3, none⟩ (.slice qa zl.length qc)).setCell ⟨w1.heap.size, 4, none⟩ (.slice pa zfv.length pc) = w9 at *
        have hT3 := hS9.out _ hbz.out.block
        clear hT2
        (refine hK.out _ _ (fun _ => hT3) (fun _ => ?_); clear hK K; (try simp only [Act.put, List.setIfInBounds_toArray, List.set_cons_zero, List.set_cons_succ]))
        refine wpAnyT_one (i := 14) (by kernel_rfl) rfl (fun K hK => ?_)
        go_simp
        (refine hK.out _ _ (fun _ => hT3) (fun _ => ?_); clear hK K; (try simp only [Act.put, List.setIfInBounds_toArray, List.set_cons_zero, List.set_cons_succ]))
        refine wpAnyT_one (i := 15) (by kernel_rfl) rfl (fun K hK => ?_)
        go_simp
        (refine hK.out _ _ (fun _ => hT3) (fun _ => ?_); clear hK K; (try simp only [Act.put, List.setIfInBounds_toArray, List.set_cons_zero, List.set_cons_succ]))
        refine wpAnyT_done (by kernel_rfl) ?_ _
        go_wp2_with fail
        go_meet
        have hgs2 : wg.drew.heap.size = w1.heap.size + 1 := gs.out
        exact ⟨_, _, _, _, _, _, rfl, rfl, rfl, rz.out, Nat.le_refl _, hr4.out.keep (fun c h => h.imp id (fun h => ⟨by have := h.1; omega, by rw [hsz9.out]; exact h.2⟩)) (fun b hb => hkp.out b (hb.elim (fun h => by have := hSw.out b h; have := D1.out.size; omega) (fun h => by have := h.1; omega))), hbz.out⟩
    · refine wp_region_T (RwS w.heap.size g (m * 5) (.func (.func kf) #[] caps) (.bool lays) (.int .i64 xk) (.int .i64 xn) (.string xt) (.slice ya xl.length yc) (.slice za xfv.length zc)) 16 (by kernel_rfl) ?_
      have hT0 := hS9.out w1.drew (fun _ _ => rfl)
      ((refine wpAnyT_take (i := 0) (v := ?_) rfl (by kernel_rfl) (by kernel_rfl) (by kernel_rfl) (by kernel_rfl) (by exact fun _ _ _ h => h) (Or.inl ⟨by kernel_rfl, ?_⟩) hT0 ?_; rotate_left 1; focus (intro w hSw; unfold RwS at hSw; (try dsimp only at hSw); go_simp; try with_reducible rfl); (try simp only [List.getElem_toArray, List.getElem_cons_zero, List.getElem_cons_succ, Act.put, List.setIfInBounds_toArray, List.set_cons_zero, List.set_cons_succ])); (refine wpAnyT_take (i := 1) (v := ?_) rfl (by kernel_rfl) (by kernel_rfl) (by kernel_rfl) (by kernel_rfl) (by exact fun _ _ _ h => h) (Or.inl ⟨by kernel_rfl, ?_⟩) hT0 ?_; rotate_left 1; focus (intro w hSw; unfold RwS at hSw; (try dsimp only at hSw); go_simp; try with_reducible rfl); (try simp only [List.getElem_toArray, List.getElem_cons_zero, List.getElem_cons_succ, Act.put, List.setIfInBounds_toArray, List.set_cons_zero, List.set_cons_succ])); (refine wpAnyT_take (i := 2) (v := ?_) rfl (by kernel_rfl) (by kernel_rfl) (by kernel_rfl) (by kernel_rfl) (by exact fun _ _ _ h => h) (Or.inl ⟨by kernel_rfl, ?_⟩) hT0 ?_; rotate_left 1; focus (intro w hSw; unfold RwS at hSw; (try dsimp only at hSw); go_simp; try with_reducible rfl); (try simp only [List.getElem_toArray, List.getElem_cons_zero, List.getElem_cons_succ, Act.put, List.setIfInBounds_toArray, List.set_cons_zero, List.set_cons_succ])); (refine wpAnyT_take (i := 3) (v := ?_) rfl (by kernel_rfl) (by kernel_rfl) (by kernel_rfl) (by kernel_rfl) (by exact fun _ _ _ h => h) (Or.inl ⟨by kernel_rfl, ?_⟩) hT0 ?_; rotate_left 1; focus (intro w hSw; unfold RwS at hSw; (try dsimp only at hSw); go_simp; try with_reducible rfl); (try simp only [List.getElem_toArray, List.getElem_cons_zero, List.getElem_cons_succ, Act.put, List.setIfInBounds_toArray, List.set_cons_zero, List.set_cons_succ])); (refine wpAnyT_take (i := 4) (v := ?_) rfl (by kernel_rfl) (by kernel_rfl) (by kernel_rfl) (by kernel_rfl) (by exact fun _ _ _ h => h) (Or.inl ⟨by kernel_rfl, ?_⟩) hT0 ?_; rotate_left 1; focus (intro w hSw; unfold RwS at hSw; (try dsimp only at hSw); go_simp; try with_reducible rfl); (try simp only [List.getElem_toArray, List.getElem_cons_zero, List.getElem_cons_succ, Act.put, List.setIfInBounds_toArray, List.set_cons_zero, List.set_cons_succ])); (refine wpAnyT_take (i := 5) (v := ?_) rfl (by kernel_rfl) (by kernel_rfl) (by kernel_rfl) (by kernel_rfl) (by exact fun _ _ _ h => h) (Or.inl ⟨by kernel_rfl, ?_⟩) hT0 ?_; rotate_left 1; focus (intro w hSw; unfold RwS at hSw; (try dsimp only at hSw); go_simp; try with_reducible rfl); (try simp only [List.getElem_toArray, List.getElem_cons_zero, List.getElem_cons_succ, Act.put, List.setIfInBounds_toArray, List.set_cons_zero, List.set_cons_succ])); (refine wpAnyT_take (i := 6) (v := ?_) rfl (by kernel_rfl) (by kernel_rfl) (by kernel_rfl) (by kernel_rfl) (by exact fun _ _ _ h => h) (Or.inl ⟨by kernel_rfl, ?_⟩) hT0 ?_; rotate_left 1; focus (intro w hSw; unfold RwS at hSw; (try dsimp only at hSw); go_simp; try with_reducible rfl); (try simp only [List.getElem_toArray, List.getElem_cons_zero, List.getElem_cons_succ, Act.put, List.setIfInBounds_toArray, List.set_cons_zero, List.set_cons_succ])))
      refine wpAnyT_two (i := 7) (j := 12) (by kernel_rfl) rfl rfl (fun K hK => ?_) (fun K hK => ?_)
      · go_simp
        refine (hay.out w1.drew _ _ _ (hWy.out _ (Below.refl w1.heap.size w1).drew) (hyk.out _ (Below.refl w1.heap.size w1).drew) (hsk.out _ (Below.refl w1.heap.size w1).drew).tail).mono ?_
        rintro e w4 ⟨cs4, rfl, h4, hr4⟩
        have E := hid ((Below.refl w1.heap.size w1).drew.step h4)
        have hT1 := hS9.out _ E.out.block
        obtain ⟨zk, zn, zt, zl, zfn, zfv⟩ := qv
        obtain ⟨qa, qc, pa, pc, rfl, _⟩ := hr4.inv
        replace hr4 := hid hr4
        clear h4 hT0
        (refine hK.out _ _ (fun _ => hT1) (fun _ => ?_); clear hK K; (try simp only [Act.put, List.setIfInBounds_toArray, List.set_cons_zero, List.set_cons_succ]))
        ((refine wpAnyT_take (i := 8) (v := ?_) rfl (by kernel_rfl) (by kernel_rfl) (by kernel_rfl) (by kernel_rfl) (by exact fun _ _ _ h => h) (Or.inl ⟨by kernel_rfl, ?_⟩) hT1 ?_; rotate_left 1; focus (intro w hSw; unfold RwS at hSw; (try dsimp only at hSw); go_simp; try with_reducible rfl); (try simp only [List.getElem_toArray, List.getElem_cons_zero, List.getElem_cons_succ, Act.put, List.setIfInBounds_toArray, List.set_cons_zero, List.set_cons_succ])); (refine wpAnyT_take (i := 9) (v := ?_) rfl (by kernel_rfl) (by kernel_rfl) (by kernel_rfl) (by kernel_rfl) (by exact fun _ _ _ h => h) (Or.inl ⟨by kernel_rfl, ?_⟩) hT1 ?_; rotate_left 1; focus (intro w hSw; unfold RwS at hSw; (try dsimp only at hSw); go_simp; try with_reducible rfl); (try simp only [List.getElem_toArray, List.getElem_cons_zero, List.getElem_cons_succ, Act.put, List.setIfInBounds_toArray, List.set_cons_zero, List.set_cons_succ])); (refine wpAnyT_take (i := 10) (v := ?_) rfl (by kernel_rfl) (by kernel_rfl) (by kernel_rfl) (by kernel_rfl) (by exact fun _ _ _ h => h) (Or.inl ⟨by kernel_rfl, ?_⟩) hT1 ?_; rotate_left 1; focus (intro w hSw; unfold RwS at hSw; (try dsimp only at hSw); go_simp; try with_reducible rfl); (try simp only [List.getElem_toArray, List.getElem_cons_zero, List.getElem_cons_succ, Act.put, List.setIfInBounds_toArray, List.set_cons_zero, List.set_cons_succ])); (refine wpAnyT_take (i := 11) (v := ?_) rfl (by kernel_rfl) (by kernel_rfl) (by kernel_rfl) (by kernel_rfl) (by exact fun _ _ _ h => h) (Or.inl ⟨by kernel_rfl, ?_⟩) hT1 ?_; rotate_left 1; focus (intro w hSw; unfold RwS at hSw; (try dsimp only at hSw); go_simp; try with_reducible rfl); (try simp only [List.getElem_toArray, List.getElem_cons_zero, List.getElem_cons_succ, Act.put, List.setIfInBounds_toArray, List.set_cons_zero, List.set_cons_succ])))
        refine wpAnyT_one (i := 12) (by kernel_rfl) rfl (fun K hK => ?_)
        go_simp
        have E2 := hid (E.out.step (below_new w4 (.cells #[.int .i64 0, .int .i64 0, .string ⟨#[]⟩, .slice none 0 0, .slice none 0 0] 25)))
        have hT2 := hS9.out _ E2.out.block
        clear hT1
        (refine hK.out _ _ (fun _ => hT2) (fun _ => ?_); clear hK K; (try simp only [Act.put, List.setIfInBounds_toArray, List.set_cons_zero, List.set_cons_succ]))
        refine wpAnyT_one (i := 13) (by kernel_rfl) rfl (fun K hK => ?_)
        go_simp
        have E3 := hid (E.out.step (below_new w4 (.cells #[.int .i64 zk, .int .i64 zn, .string zt, .slice qa zl.length qc, .slice pa zfv.length pc] 25)))
        have hT3 := hS9.out _ E3.out.block
        clear hT2
        (refine hK.out _ _ (fun _ => hT3) (fun _ => ?_); clear hK K; (try simp only [Act.put, List.setIfInBounds_toArray, List.set_cons_zero, List.set_cons_succ]))
        refine wpAnyT_one (i := 14) (by kernel_rfl) rfl (fun K hK => ?_)
        go_simp
        (refine hK.out _ _ (fun _ => hT3) (fun _ => ?_); clear hK K; (try simp only [Act.put, List.setIfInBounds_toArray, List.set_cons_zero, List.set_cons_succ]))
        refine wpAnyT_one (i := 15) (by kernel_rfl) rfl (fun K hK => ?_)
        go_simp
        (refine hK.out _ _ (fun _ => hT3) (fun _ => ?_); clear hK K; (try simp only [Act.put, List.setIfInBounds_toArray, List.set_cons_zero, List.set_cons_succ]))
        refine wpAnyT_done (by kernel_rfl) ?_ _
        go_wp2_with fail
        go_meet
        exact ⟨_, _, _, _, _, _, rfl, rfl, rfl, heap_alloc_new w4 _, E.out.size, hr4.out.keep (fun c h => h.imp id (fun h => ⟨h.1, Nat.lt_of_lt_of_le h.2 (below_new w4 _).size⟩)) (fun b hb => (below_new w4 _).block b (hb.elim (fun h => Nat.lt_of_lt_of_le (hSw.out b h) (Nat.le_trans D1.out.size E.out.size)) (fun h => h.2))), E3.out⟩
      · go_simp
        obtain ⟨wg, hwg⟩ : ∃ wg, wg = w1.alloc (.cells #[.int .i64 0, .int .i64 0, .string ⟨#[]⟩, .slice none 0 0, .slice none 0 0] 25) := ⟨_, rfl⟩
        have E1 : Hid (Below w1.heap.size w1 wg) := by show Below _ _ _; rw [hwg]; exact below_new _ _
        have gz : Hid (wg.heap[w1.heap.size]? = some (.cells #[.int .i64 0, .int .i64 0, .string ⟨#[]⟩, .slice none 0 0, .slice none 0 0] 25 (0, 0))) := by show _ = _; rw [hwg]; exact heap_alloc_new _ _
        have gs : Hid (wg.heap.size = w1.heap.size + 1) := by show _ = _; rw [hwg]; simp
        rw [← hwg]
        clear hwg
        have hT1 := hS9.out wg.drew E1.out.block
        clear hT0
        (refine hK.out _ _ (fun _ => hT1) (fun _ => ?_); clear hK K; (try simp only [Act.put, List.setIfInBounds_toArray, List.set_cons_zero, List.set_cons_succ]))
        refine wpAnyT_one (i := 7) (by kernel_rfl) rfl (fun K hK => ?_)
        go_simp
        refine (hay.out wg.drew _ _ _ (hWy.out _ (E1.out.step (Below.refl wg.heap.size wg).drew)) (hyk.out _ (E1.out.step (Below.refl wg.heap.size wg).drew)) (hsk.out _ (E1.out.step (Below.refl wg.heap.size wg).drew)).tail).mono ?_
        rintro e w4 ⟨cs4, rfl, h4, hr4⟩
        have E := hid (E1.out.step ((Below.refl wg.heap.size wg).drew.step h4))
        have g4 := hid (((Below.refl wg.heap.size wg).drew.step h4).block _ (lt_of_block gz.out) |>.trans gz.out)
        have hT2 := hS9.out _ E.out.block
        obtain ⟨zk, zn, zt, zl, zfn, zfv⟩ := qv
        obtain ⟨qa, qc, pa, pc, rfl, _⟩ := hr4.inv
        replace hr4 := hid hr4
        clear h4 hT1
        (refine hK.out _ _ (fun _ => hT2) (fun _ => ?_); clear hK K; (try simp only [Act.put, List.setIfInBounds_toArray, List.set_cons_zero, List.set_cons_succ]))
        ((refine wpAnyT_take (i := 8) (v := ?_) rfl (by kernel_rfl) (by kernel_rfl) (by kernel_rfl) (by kernel_rfl) (by exact fun _ _ _ h => h) (Or.inl ⟨by kernel_rfl, ?_⟩) hT2 ?_; rotate_left 1; focus (intro w hSw; unfold RwS at hSw; (try dsimp only at hSw); go_simp; try with_reducible rfl); (try simp only [List.getElem_toArray, List.getElem_cons_zero, List.getElem_cons_succ, Act.put, List.setIfInBounds_toArray, List.set_cons_zero, List.set_cons_succ])); (refine wpAnyT_take (i := 9) (v := ?_) rfl (by kernel_rfl) (by kernel_rfl) (by kernel_rfl) (by kernel_rfl) (by exact fun _ _ _ h => h) (Or.inl ⟨by kernel_rfl, ?_⟩) hT2 ?_; rotate_left 1; focus (intro w hSw; unfold RwS at hSw; (try dsimp only at hSw); go_simp; try with_reducible rfl); (try simp only [List.getElem_toArray, List.getElem_cons_zero, List.getElem_cons_succ, Act.put, List.setIfInBounds_toArray, List.set_cons_zero, List.set_cons_succ])); (refine wpAnyT_take (i := 10) (v := ?_) rfl (by kernel_rfl) (by kernel_rfl) (by kernel_rfl) (by kernel_rfl) (by exact fun _ _ _ h => h) (Or.inl ⟨by kernel_rfl, ?_⟩) hT2 ?_; rotate_left 1; focus (intro w hSw; unfold RwS at hSw; (try dsimp only at hSw); go_simp; try with_reducible rfl); (try simp only [List.getElem_toArray, List.getElem_cons_zero, List.getElem_cons_succ, Act.put, List.setIfInBounds_toArray, List.set_cons_zero, List.set_cons_succ])); (refine wpAnyT_take (i := 11) (v := ?_) rfl (by kernel_rfl) (by kernel_rfl) (by kernel_rfl) (by kernel_rfl) (by exact fun _ _ _ h => h) (Or.inl ⟨by kernel_rfl, ?_⟩) hT2 ?_; rotate_left 1; focus (intro w hSw; unfold RwS at hSw; (try dsimp only at hSw); go_simp; try with_reducible rfl); (try simp only [List.getElem_toArray, List.getElem_cons_zero, List.getElem_cons_succ, Act.put, List.setIfInBounds_toArray, List.set_cons_zero, List.set_cons_succ])))
        have c0 := box_at (j := 0) g4.out rfl
        have c1 := box_at (j := 1) g4.out rfl
        have c2 := box_at (j := 2) g4.out rfl
        have c3 := box_at (j := 3) g4.out rfl
        have c4 := box_at (j := 4) g4.out rfl
        have f0 := box_free g4.out
        refine wpAnyT_one (i := 13) (by kernel_rfl) rfl (fun K hK => ?_)
        go_simp
        clear c0 c1 c2 c3 c4
        clear f0
        have hbz := hid (set5_below E.out (Nat.le_refl _) (.int .i64 zk) (.int .i64 zn) (.string zt) (.slice qa zl.length qc) (.slice pa zfv.length pc))
        have rz := hid (set5_box (u0 := .int .i64 zk) (u1 := .int .i64 zn) (u2 := .string zt) (u3 := .slice qa zl.length qc) (u4 := .slice pa zfv.length pc) g4.out)
        have hkp := hid (fun b (hb : b ≠ w1.heap.size) => set5_other w4 (w1.heap.size) (.int .i64 zk) (.int .i64 zn) (.string zt) (.slice qa zl.length qc) (.slice pa zfv.length pc) (b := b) hb)
        have hsz9 := hid (set5_size w4 (w1.heap.size) (.int .i64 zk) (.int .i64 zn) (.string zt) (.slice qa zl.length qc) (.slice pa zfv.length pc))
        unfold set5 at hbz rz hkp hsz9
        generalize ((((w4.setCell ⟨w1.heap.size, 0, none⟩ (.int .i64 zk)).setCell ⟨w1.heap.size, 1, none⟩ (.int .i64 zn)).setCell ⟨w1.heap.size, 2, none⟩ (.string zt)).setCell ⟨w1.heap.size, 3, none⟩ (.slice qa zl.length qc)).setCell ⟨w1.heap.size, 4, none⟩ (.slice pa zfv.length pc) = w9 at *
        have hT3 := hS9.out _ hbz.out.block
        clear hT2
        (refine hK.out _ _ (fun _ => hT3) (fun _ => ?_); clear hK K; (try simp only [Act.put, List.setIfInBounds_toArray, List.set_cons_zero, List.set_cons_succ]))
        refine wpAnyT_one (i := 14) (by kernel_rfl) rfl (fun K hK => ?_)
        go_simp
        (refine hK.out _ _ (fun _ => hT3) (fun _ => ?_); clear hK K; (try simp only [Act.put, List.setIfInBounds_toArray, List.set_cons_zero, List.set_cons_succ]))
        refine wpAnyT_one (i := 15) (by kernel_rfl) rfl (fun K hK => ?_)
        go_simp
        (refine hK.out _ _ (fun _ => hT3) (fun _ => ?_); clear hK K; (try simp only [Act.put, List.setIfInBounds_toArray, List.set_cons_zero, List.set_cons_succ]))
        refine wpAnyT_done (by kernel_rfl) ?_ _
        go_wp2_with fail
        go_meet
        have hgs2 : wg.drew.heap.size = w1.heap.size + 1 := gs.out
        exact ⟨_, _, _, _, _, _, rfl, rfl, rfl, rz.out, Nat.le_refl _, hr4.out.keep (fun c h => h.imp id (fun h => ⟨by have := h.1; omega, by rw [hsz9.out]; exact h.2⟩)) (fun b hb => hkp.out b (hb.elim (fun h => by have := hSw.out b h; have := D1.out.size; omega) (fun h => by have := h.1; omega))), hbz.out⟩
  case rest =>
    obtain ⟨gx, v0, v1, v2, v3, v4, rfl, rfl, rfl, hgx, hgb, hrx, hE⟩ := hcut
    obtain ⟨zk, zn, zt, zl, zfn, zfv⟩ := qv
    obtain ⟨qa, qc, pa, pc, e5, _⟩ := hrx.inv
    simp only [List.cons.injEq, and_true] at e5
    obtain ⟨rfl, rfl, rfl, rfl, rfl⟩ := e5
    replace hgx := hid hgx
    replace hrx := hid hrx
    have D2 := hid (D1.out.step hE)
    have hown2 := hid (own_keep' (w' := wc) hown.out (fun k' hk' => hE.block k' (Nat.lt_of_le_of_lt (Nat.le_of_eq (Option.some.inj hk').symm) hgl.out.2)))
    have p2 := hid ((hE.block _ (lt_of_block q2.out)).trans q2.out)
    have hgc := hid (show g < wc.heap.size from Nat.lt_of_lt_of_le hgl.out.2 hE.size)
    have hgw := hid (show w.heap.size + 3 ≤ g from by rw [← hW0s.out]; exact hgl.out.1)
    have hln3 : Hid (css.length = l.length) := hcll
    clear hE hS9 hay hcl9 hyr hWy hyk hsk hss0 hsc hsb hsc1 hsc2 hr1 hown hgb
    have w2 : IntKind.i64.wrap ((m : Int) + 1) = ((m + 1 : Nat) : Int) := by rw [IntWalk.i64_in _ (by have := hlm.out; omega)]; omega
    cases qg with
    | true =>
      go_wp2_with fail
      have hdl := delV_calls (i := m) (css := css) (w := wc) (cap := cap) (base := W0.heap.size) (g := g) (by rw [hcll.out]; exact hown2.out) hc5.out hc1.out (by rw [hcll.out]; exact hlm.out) (by rw [hcll.out]; exact hml)
      rw [hcll.out] at hdl
      refine hdl.mono ?_
      rintro e w5 ⟨rfl, hg5, ho5⟩
      have D5 := hid (show Below w.heap.size w w5 from ⟨hg5.os.trans D2.out.os, hg5.tape.trans D2.out.tape, hg5.output.trans D2.out.output, Nat.le_trans D2.out.size hg5.size, fun k hk => (hg5.block k (Nat.lt_of_lt_of_le hk D2.out.size) (fun e => by injection e with e; have := hgw.out; omega)).trans (D2.out.block k hk)⟩)
      have p5 := hid ((hg5.block _ (lt_of_block p2.out) (fun e => by injection e with e; have := hgw.out; omega)).trans p2.out)
      have hg5s := hid (Nat.lt_of_lt_of_le hgc.out hg5.size)
      replace ho5 := hid ho5
      clear hdl hg5
      have c0 := box_at (j := 0) p5.out rfl
      have c1 := box_at (j := 1) p5.out rfl
      have c2 := box_at (j := 2) p5.out rfl
      have c3 := box_at (j := 3) p5.out rfl
      have c4 := box_at (j := 4) p5.out rfl
      have f0 := box_free p5.out
      go_wp2_with fail
      clear c0 c1 c2 c3 c4
      clear f0
      have hbz := hid (set5_below D5.out (Nat.le_add_right w.heap.size 2) (.int .i64 5) (.int .i64 0) (.string ⟨#[]⟩) (.slice (some ⟨g, 0, none⟩) (l.length - 1) cap) (.slice none 0 0))
      have rz := hid (set5_box (u0 := .int .i64 5) (u1 := .int .i64 0) (u2 := .string ⟨#[]⟩) (u3 := .slice (some ⟨g, 0, none⟩) (l.length - 1) cap) (u4 := .slice none 0 0) p5.out)
      have hkp := hid (fun b (hb : b ≠ w.heap.size + 2) => set5_other w5 (w.heap.size + 2) (.int .i64 5) (.int .i64 0) (.string ⟨#[]⟩) (.slice (some ⟨g, 0, none⟩) (l.length - 1) cap) (.slice none 0 0) (b := b) hb)
      have hsz9 := hid (set5_size w5 (w.heap.size + 2) (.int .i64 5) (.int .i64 0) (.string ⟨#[]⟩) (.slice (some ⟨g, 0, none⟩) (l.length - 1) cap) (.slice none 0 0))
      unfold set5 at hbz rz hkp hsz9
      generalize ((((w5.setCell ⟨w.heap.size + 2, 0, none⟩ (.int .i64 5)).setCell ⟨w.heap.size + 2, 1, none⟩ (.int .i64 0)).setCell ⟨w.heap.size + 2, 2, none⟩ (.string ⟨#[]⟩)).setCell ⟨w.heap.size + 2, 3, none⟩ (.slice (some ⟨g, 0, none⟩) (l.length - 1) cap)).setCell ⟨w.heap.size + 2, 4, none⟩ (.slice none 0 0) = w9 at *
      have z0 := box_at (j := 0) rz.out rfl
      have z1 := box_at (j := 1) rz.out rfl
      have z2 := box_at (j := 2) rz.out rfl
      have z3 := box_at (j := 3) rz.out rfl
      have z4 := box_at (j := 4) rz.out rfl
      refine ⟨rfl, _, by simp [results, Tryz.results67, go_sem, z0, z1, z2, z3, z4] <;> exact ⟨rfl, rfl⟩, [.int .i64 5, .int .i64 0, .string ⟨#[]⟩, .slice (some ⟨g, 0, none⟩) (l.length - 1) cap, .slice none 0 0], rfl, hbz.out, ?_⟩
      refine rd_listV (own_readL (A := W0.heap.size) (e := 25) (css := css.eraseIdx m) ?_ (own_keep' (w := w5) ?_ ?_) ?_ ?_ ?_)
      · rw [List.length_eraseIdx, List.length_eraseIdx, hln3.out]
      · rw [List.length_eraseIdx, if_pos hml]; exact ho5.out
      · intro k' hk'
        obtain rfl : g = k' := by injection hk'
        exact hkp.out g (by have := hgw.out; omega)
      · intro i x cs hx hc
        rw [List.getElem?_eraseIdx] at hx hc
        have hh : ∀ i', l[i']? = some x → css[i']? = some cs → Rd w9 (fun c => S c ∨ From w.heap.size w9 c) x cs := fun i' h1 h2 => (hce.out i' x cs h1 h2).keep (fun _ h => .inl h) (fun b hb => hbz.out.block b (hSw.out b hb))
        split at hx
        · rename_i h; rw [if_pos h] at hc; exact hh _ hx hc
        · rename_i h; rw [if_neg h] at hc; exact hh _ hx hc
      · intro b hb
        obtain rfl : g = b := by injection hb
        exact .inr ⟨by have := hgw.out; omega, by rw [hsz9.out]; exact hg5s.out⟩
      · have := hlm.out; rw [List.length_eraseIdx]; split <;> omega
    | false =>
      have x0 := box_at (j := 0) hgx.out rfl
      have x1 := box_at (j := 1) hgx.out rfl
      have x2 := box_at (j := 2) hgx.out rfl
      have x3 := box_at (j := 3) hgx.out rfl
      have x4 := box_at (j := 4) hgx.out rfl
      have hth := hid (fun j (hj : j < 5) => own_there hown2.out (o := m * 5 + j) (by have h1 := (own_size hown2.out).1; have hmm : (m + 1) * 5 ≤ cap * 5 := Nat.mul_le_mul_right _ (by omega); omega))
      obtain ⟨u0, y0⟩ := Option.isSome_iff_exists.1 (hth.out 0 (by decide))
      obtain ⟨u1, y1⟩ := Option.isSome_iff_exists.1 (hth.out 1 (by decide))
      obtain ⟨u2, y2⟩ := Option.isSome_iff_exists.1 (hth.out 2 (by decide))
      obtain ⟨u3, y3⟩ := Option.isSome_iff_exists.1 (hth.out 3 (by decide))
      obtain ⟨u4, y4⟩ := Option.isSome_iff_exists.1 (hth.out 4 (by decide))
      rw [Nat.add_zero] at y0
      have f0 := fun o => hown2.out.frozenAt o
      go_upto_region 6 with fail
      have hput : Hid (World.ownsRow (((((wc.setCell ⟨g, m * 5, none⟩ (.int .i64 zk)).setCell ⟨g, m * 5 + 1, none⟩ (.int .i64 zn)).setCell ⟨g, m * 5 + 2, none⟩ (.string zt)).setCell ⟨g, m * 5 + 3, none⟩ (.slice qa zl.length qc)).setCell ⟨g, m * 5 + 4, none⟩ (.slice pa zfv.length pc)) W0.heap.size 25 5 (.slice (some ⟨g, 0, none⟩) l.length cap) l.length (css.set m [.int .i64 zk, .int .i64 zn, .string zt, .slice qa zl.length qc, .slice pa zfv.length pc]).flatten) :=
        own_put (a := 0) (vs := [.int .i64 zk, .int .i64 zn, .string zt, .slice qa zl.length qc, .slice pa zfv.length pc]) hown2.out hcll.out hc5.out hds.out rfl
      have hgr : Hid (wc.grownBy (((((wc.setCell ⟨g, m * 5, none⟩ (.int .i64 zk)).setCell ⟨g, m * 5 + 1, none⟩ (.int .i64 zn)).setCell ⟨g, m * 5 + 2, none⟩ (.string zt)).setCell ⟨g, m * 5 + 3, none⟩ (.slice qa zl.length qc)).setCell ⟨g, m * 5 + 4, none⟩ (.slice pa zfv.length pc)) (some g)) := setCells_grown g [.int .i64 zk, .int .i64 zn, .string zt, .slice qa zl.length qc, .slice pa zfv.length pc] (m * 5) wc
      clear x0 x1 x2 x3 x4 y0 y1 y2 y3 y4 f0
      generalize ((((wc.setCell ⟨g, m * 5, none⟩ (.int .i64 zk)).setCell ⟨g, m * 5 + 1, none⟩ (.int .i64 zn)).setCell ⟨g, m * 5 + 2, none⟩ (.string zt)).setCell ⟨g, m * 5 + 3, none⟩ (.slice qa zl.length qc)).setCell ⟨g, m * 5 + 4, none⟩ (.slice pa zfv.length pc) = w5 at *
      have D5 := hid (show Below w.heap.size w w5 from ⟨hgr.out.os.trans D2.out.os, hgr.out.tape.trans D2.out.tape, hgr.out.output.trans D2.out.output, Nat.le_trans D2.out.size hgr.out.size, fun k hk => (hgr.out.block k (Nat.lt_of_lt_of_le hk D2.out.size) (fun e => by injection e with e; have := hgw.out; omega)).trans (D2.out.block k hk)⟩)
      have p5 := hid ((hgr.out.block _ (lt_of_block p2.out) (fun e => by injection e with e; have := hgw.out; omega)).trans p2.out)
      have hg5s := hid (Nat.lt_of_lt_of_le hgc.out hgr.out.size)
      have c0 := box_at (j := 0) p5.out rfl
      have c1 := box_at (j := 1) p5.out rfl
      have c2 := box_at (j := 2) p5.out rfl
      have c3 := box_at (j := 3) p5.out rfl
      have c4 := box_at (j := 4) p5.out rfl
      have f0 := box_free p5.out
      go_wp2_with fail
      clear c0 c1 c2 c3 c4
      clear f0
      have hbz := hid (set5_below D5.out (Nat.le_add_right w.heap.size 2) (.int .i64 5) (.int .i64 0) (.string ⟨#[]⟩) (.slice (some ⟨g, 0, none⟩) l.length cap) (.slice none 0 0))
      have rz := hid (set5_box (u0 := .int .i64 5) (u1 := .int .i64 0) (u2 := .string ⟨#[]⟩) (u3 := .slice (some ⟨g, 0, none⟩) l.length cap) (u4 := .slice none 0 0) p5.out)
      have hkp := hid (fun b (hb : b ≠ w.heap.size + 2) => set5_other w5 (w.heap.size + 2) (.int .i64 5) (.int .i64 0) (.string ⟨#[]⟩) (.slice (some ⟨g, 0, none⟩) l.length cap) (.slice none 0 0) (b := b) hb)
      have hsz9 := hid (set5_size w5 (w.heap.size + 2) (.int .i64 5) (.int .i64 0) (.string ⟨#[]⟩) (.slice (some ⟨g, 0, none⟩) l.length cap) (.slice none 0 0))
      unfold set5 at hbz rz hkp hsz9
      generalize ((((w5.setCell ⟨w.heap.size + 2, 0, none⟩ (.int .i64 5)).setCell ⟨w.heap.size + 2, 1, none⟩ (.int .i64 0)).setCell ⟨w.heap.size + 2, 2, none⟩ (.string ⟨#[]⟩)).setCell ⟨w.heap.size + 2, 3, none⟩ (.slice (some ⟨g, 0, none⟩) l.length cap)).setCell ⟨w.heap.size + 2, 4, none⟩ (.slice none 0 0) = w9 at *
      have z0 := box_at (j := 0) rz.out rfl
      have z1 := box_at (j := 1) rz.out rfl
      have z2 := box_at (j := 2) rz.out rfl
      have z3 := box_at (j := 3) rz.out rfl
      have z4 := box_at (j := 4) rz.out rfl
      refine ⟨rfl, _, by simp [results, Tryz.results67, go_sem, z0, z1, z2, z3, z4] <;> exact ⟨rfl, rfl⟩, [.int .i64 5, .int .i64 0, .string ⟨#[]⟩, .slice (some ⟨g, 0, none⟩) l.length cap, .slice none 0 0], rfl, hbz.out, ?_⟩
      refine rd_listV (own_readL (A := W0.heap.size) (e := 25) (css := css.set m [.int .i64 zk, .int .i64 zn, .string zt, .slice qa zl.length qc, .slice pa zfv.length pc]) ?_ (own_keep' (w := w5) ?_ ?_) ?_ ?_ ?_)
      · rw [List.length_set, List.length_set, hln3.out]
      · rw [List.length_set]; exact hput.out
      · intro k' hk'
        obtain rfl : g = k' := by injection hk' with hk'
        exact hkp.out g (by have := hgw.out; omega)
      · intro i x cs hx hc
        by_cases hi : i = m
        · subst hi
          rw [List.getElem?_set_self hml] at hx
          rw [List.getElem?_set_self (by rw [hln3.out]; exact hml)] at hc
          obtain rfl := Option.some.inj hx
          obtain rfl := Option.some.inj hc
          refine hrx.out.keep (fun c h => h.imp id (fun h => ⟨by have := h.1; have := D1.out.size; omega, by rw [hsz9.out]; exact Nat.lt_of_lt_of_le h.2 hgr.out.size⟩)) (fun b hb => ?_)
          have hbg : b ≠ g := by rcases hb with hb | hb
                                 · have := hSw.out b hb; have := hgw.out; omega
                                 · have := hb.1; have := hgl.out.2; omega
          have hbw : b ≠ w.heap.size + 2 := by rcases hb with hb | hb
                                               · have := hSw.out b hb; omega
                                               · have := hb.1; have := hgl.out.2; have := hgw.out; omega
          have hbc : b < wc.heap.size := by rcases hb with hb | hb
                                            · have := hSw.out b hb; have := D2.out.size; omega
                                            · exact hb.2
          exact (hkp.out b hbw).trans (hgr.out.block b hbc (fun e => hbg (by injection e)))
        · rw [List.getElem?_set_ne (Ne.symm hi)] at hx hc
          exact (hce.out i x cs hx hc).keep (fun _ h => .inl h) (fun b hb => hbz.out.block b (hSw.out b hb))
      · intro b hb
        obtain rfl : g = b := by injection hb with hb
        exact .inr ⟨by have := hgw.out; omega, by rw [hsz9.out]; exact hg5s.out⟩
      · have := hlm.out; rw [List.length_set]; omega
end Go.Proofs.YthjihdpleclejaaGreatDoor
namespace Go.Proofs.YthjihdpleclejaaGreatDoor
open Go.RowKit Go.Proofs
section
variable {tf : PVal → Chg} {lays : Bool} {v y : PVal} {s : ByteArray} {r : List ByteArray} {n : Nat}
theorem atP_kindL (hp : place s = some n) (hk : v.k ≠ 5) : atP tf lays v (s :: r) = ⟨zeroP, false, 7⟩ := by rw [atP, hp]; simp [hk]
theorem atP_farL (hp : place s = some n) (hk : v.k = 5) (hn : v.l[n]? = none) : atP tf lays v (s :: r) = ⟨zeroP, false, 8⟩ := by rw [atP, hp]; simp [hk, hn]
theorem atP_inL (hp : place s = some n) (hk : v.k = 5) (hn : v.l[n]? = some y) : atP tf lays v (s :: r) = atL v n (atP tf lays y r) := by rw [atP, hp]; simp [hk, hn]
theorem atP_kindF (hp : place s = none) (hk : v.k ≠ 6) : atP tf lays v (s :: r) = ⟨zeroP, false, 7⟩ := by rw [atP, hp]; simp [hk]
theorem atP_farF (hp : place s = none) (hk : v.k = 6) (hf : findP s v.fn v.fv = none) (hl : lays = false) : atP tf lays v (s :: r) = ⟨zeroP, false, 8⟩ := by rw [atP, hp]; simp [hk, hf, hl]
theorem atP_inF (hp : place s = none) (hk : v.k = 6) (hf : findP s v.fn v.fv = some y) : atP tf lays v (s :: r) = atF v s (atP tf lays y r) := by rw [atP, hp]; simp [hk, hf]
theorem atP_newF (hp : place s = none) (hk : v.k = 6) (hf : findP s v.fn v.fv = none) (hl : lays = true) : atP tf lays v (s :: r) = atF v s (atP tf lays docE r) := by rw [atP, hp]; simp [hk, hf, hl]
end
theorem insA_get {α : Type} (l : List α) {i : Nat} (x : α) (hi : i ≤ l.length) (j : Nat) : (insA l i x)[j]? = if j < i then l[j]? else if j = i then some x else l[j - 1]? := by
 unfold insA
 rw [List.getElem?_append]
 have hl : (l.take i).length = i := by rw [List.length_take]; omega
 rw [hl]
 split
 ·rename_i h; rw [List.getElem?_take, if_pos h]
 ·rename_i h
  split
  ·rename_i h2; subst h2; simp
  ·obtain ⟨d, rfl⟩ : ∃ d, j = i + (d + 1) := ⟨j - i - 1, by omega⟩
   rw [show i + (d + 1) - i = d + 1 by omega, List.getElem?_cons_succ, List.getElem?_drop]
   congr 1
theorem insA_set {α : Type} (l : List α) {i : Nat} (x y : α) (hi : i ≤ l.length) : (insA l i x).set i y = insA l i y := by
 unfold insA
 rw [List.set_append]
 have hl : (l.take i).length = i := by rw [List.length_take]; omega
 simp [hl]
theorem insA_erase {α : Type} (l : List α) {i : Nat} (x : α) (hi : i ≤ l.length) : (insA l i x).eraseIdx i = l := by
 unfold insA
 have hl : (l.take i).length = i := by rw [List.length_take]; omega
 rw [List.eraseIdx_append_of_length_le (by omega), hl, Nat.sub_self, List.eraseIdx_cons_zero, List.take_append_drop]
theorem atF_there {v : PVal} {s : ByteArray} {q : Chg} (h : v.fn[posP s v.fn]? = some s) : atF v s q = ⟨docL (if q.gone = true then v.fn.eraseIdx (posP s v.fn) else v.fn) (if q.gone = true then v.fv.eraseIdx (posP s v.fn) else v.fv.set (posP s v.fn) q.v), false, q.e⟩ := by
 unfold atF; simp only [h, if_pos]
theorem atF_new {v x : PVal} {s : ByteArray} {q : Chg} (h : ¬ v.fn[posP s v.fn]? = some s) (hl : v.fn.length = v.fv.length) : atF v s q = ⟨docL (if q.gone = true then (insA v.fn (posP s v.fn) s).eraseIdx (posP s v.fn) else insA v.fn (posP s v.fn) s) (if q.gone = true then (insA v.fv (posP s v.fn) x).eraseIdx (posP s v.fn) else (insA v.fv (posP s v.fn) x).set (posP s v.fn) q.v), false, q.e⟩ := by
 have hp := posP_le s v.fn
 unfold atF; simp only [h, if_false]
 rw [insA_erase _ _ hp, insA_erase _ _ (by omega), insA_set _ _ _ (by omega)]
theorem rd_docL {w : World} {S : Nat → Prop} {fn : List ByteArray} {fv : List PVal} {vf : Value} (hF : RdF w S fn fv vf) : Rd w S (docL fn fv) [.int .i64 6, .int .i64 0, .string ByteArray.empty, .slice none 0 0, vf] :=
 rd_mk ⟨by decide, by decide⟩ ⟨by decide, by decide⟩ (by decide) rdL_nil hF
theorem rd_docE {w : World} {S : Nat → Prop} : Rd w S docE [.int .i64 6, .int .i64 0, .string ByteArray.empty, .slice none 0 0, .slice none 0 0] := rd_docL rdF_nil
section
variable {w : World} {S : Nat → Prop} {A g N cap i : Nat} {CS : List (List Value)} {FN : List ByteArray} {FV : List PVal} {s : ByteArray}
theorem doc_set {q : PVal} {vs : List Value} (ho : w.ownsRow A 54 6 (.slice (some ⟨g, 0, none⟩) N cap) N (CS.set i (.string s :: vs)).flatten) (hl : CS.length = N) (hfn : FN.length = N) (hfv : FV.length = N) (hi : i < N) (hs : FN[i]? = some s) (hsz : s.size ≤ 140737488355328)
  (hr : ∀ (j : Nat) nm x cs, j ≠ i → FN[j]? = some nm → FV[j]? = some x → CS[j]? = some cs → RdFl w S (nm, x) cs) (hq : Rd w S q vs) (hg : S g) (hN : N ≤ 1466015503701) : Rd w S (docL FN (FV.set i q)) [.int .i64 6, .int .i64 0, .string ByteArray.empty, .slice none 0 0, .slice (some ⟨g, 0, none⟩) N cap] := by
 refine rd_docL (own_readF (A := A) (e := 54) (css := CS.set i (.string s :: vs)) ?_ ?_ ?_ ?_ ?_ ?_)
 ·rw [List.length_set]; omega
 ·rw [List.length_set, List.length_set]; omega
 ·rw [List.length_set, hfv]; exact ho
 ·intro j nm x cs h1 h2 h3
  by_cases hj : j = i
  ·subst hj
   rw [List.getElem?_set_self (by omega)] at h2 h3
   obtain rfl := Option.some.inj h2
   obtain rfl := Option.some.inj h3
   rw [hs] at h1
   obtain rfl := Option.some.inj h1
   exact ⟨vs, rfl, hsz, hq⟩
  ·rw [List.getElem?_set_ne (Ne.symm hj)] at h2 h3
   exact hr j nm x cs hj h1 h2 h3
 ·intro b hb
  obtain rfl : g = b := by injection hb
  exact hg
 ·rw [List.length_set]; omega
theorem doc_del (ho : w.ownsRow A 54 6 (.slice (some ⟨g, 0, none⟩) (N - 1) cap) (N - 1) (CS.eraseIdx i).flatten) (hl : CS.length = N) (hfn : FN.length = N) (hfv : FV.length = N) (hi : i < N)
  (hr : ∀ (j : Nat) nm x cs, j ≠ i → FN[j]? = some nm → FV[j]? = some x → CS[j]? = some cs → RdFl w S (nm, x) cs) (hg : S g) (hN : N ≤ 1466015503701) : Rd w S (docL (FN.eraseIdx i) (FV.eraseIdx i)) [.int .i64 6, .int .i64 0, .string ByteArray.empty, .slice none 0 0, .slice (some ⟨g, 0, none⟩) (N - 1) cap] := by
 have hFl : (FV.eraseIdx i).length = N - 1 := by rw [List.length_eraseIdx, if_pos (by omega), hfv]
 refine rd_docL (own_readF (A := A) (e := 54) (css := CS.eraseIdx i) ?_ ?_ ?_ ?_ ?_ ?_)
 ·rw [hFl, List.length_eraseIdx, if_pos (by omega), hfn]
 ·rw [hFl, List.length_eraseIdx, if_pos (by omega), hl]
 ·rw [hFl]; exact ho
 ·intro j nm x cs h1 h2 h3
  rw [List.getElem?_eraseIdx] at h1 h2 h3
  by_cases hj : j < i
  ·rw [if_pos hj] at h1 h2 h3; exact hr j nm x cs (by omega) h1 h2 h3
  ·rw [if_neg hj] at h1 h2 h3; exact hr (j + 1) nm x cs (by omega) h1 h2 h3
 ·intro b hb
  obtain rfl : g = b := by injection hb
  exact hg
 ·rw [hFl]; omega
end
def RzS (B g : Nat) (fv bv v0 v1 v2 v3 v4 : Value) (x : World) : Prop := x.cell? ⟨B, 0, none⟩ = some fv ∧ x.cell? ⟨B, 1, none⟩ = some bv ∧ x.cell? ⟨g, 0, none⟩ = some v0 ∧ x.cell? ⟨g, 1, none⟩ = some v1 ∧ x.cell? ⟨g, 2, none⟩ = some v2 ∧ x.cell? ⟨g, 3, none⟩ = some v3 ∧ x.cell? ⟨g, 4, none⟩ = some v4
end Go.Proofs.YthjihdpleclejaaGreatDoor
