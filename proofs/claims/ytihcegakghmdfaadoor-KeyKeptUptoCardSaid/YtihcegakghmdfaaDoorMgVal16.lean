/-
  Walks: value.hash's value; Hash.
  Walks: sized, less; slices that were just laid.
-/
import Derived.Test.YtihcegakghmdfaaDoorMgVal14
namespace Go.Proofs.YtihcegakghmdfaaDoor
open Go.RowKit Go.Proofs

theorem Save.cell {g : Nat} {w w' : World} (h : Save g w w') {b o : Nat} (hb : b < w.heap.size) (hg : b ≠ g) : w'.cell? ⟨b, o, none⟩ = w.cell? ⟨b, o, none⟩ := World.cell?_of_block (w := w) (h.block b hb hg)
/-- The cells of a box that was laid ahead of a call of the hash. -/
theorem save_box {g : Nat} {w w' : World} {cs : Array Value} {t : TypeId} (hg : g < w.heap.size) (h : Save g (w.alloc (.cells cs t)) w') {j : Nat} {v : Value} (hj : cs[j]? = some v) : w'.cell? ⟨w.heap.size, j, none⟩ = some v := by
  rw [h.cell (by simp) (by omega)]
  exact (cell_of_row _ _ _ _ _ _ (heap_alloc_new w _)).trans hj
theorem Save.step {g : Nat} {w w' : World} {o : Obj} (h : Save g (w.alloc o) w') : Save g w w' := (Save.of_below (below_new w o)).trans h

end Go.Proofs.YtihcegakghmdfaaDoor

namespace Go.Proofs.YtihcegakghmdfaaDoor
open Go.RowKit Go.Proofs

theorem rdL_new {w w' : World} {Vs : List PVal} {css : List (List Value)} {cells : Array Value} {t : TypeId} {n : Nat} (hn : n = Vs.length) (hlen : css.length = Vs.length) (hc : cells = css.flatten.toArray)
    (hr : ∀ (i : Nat) (x : PVal) (cs : List Value), Vs[i]? = some x → css[i]? = some cs → Rd w (Now w) x cs) (hb : Below (w.alloc (.cells cells t)).heap.size (w.alloc (.cells cells t)) w') (hl : Vs.length ≤ 1000) :
    RdL w' (Now w') Vs (.slice (some ⟨w.heap.size, 0, none⟩) n n) := by
  subst hn
  have hs := hb.size
  simp only [World.alloc, Array.size_push] at hs
  have h5 : ∀ cs ∈ css, cs.length = 5 := by
    intro cs hcs
    obtain ⟨i, hi⟩ := List.getElem?_of_mem hcs
    have hil : i < Vs.length := by rw [← hlen]; exact (List.getElem?_eq_some_iff.1 hi).1
    exact (hr i _ cs (List.getElem?_eq_getElem hil) hi).len
  have hcs : ∀ i, i < Vs.length → css[i]? = some (css.getD i []) := by
    intro i hi
    have : i < css.length := by omega
    simp [List.getD, List.getElem?_eq_getElem this]
  refine ⟨_, _, fun i => css.getD i [], rfl, Nat.le_refl _, ⟨by omega, by omega⟩, .inr ⟨w.heap.size, 0, rfl, by show _ < _; omega, fun i hi j v hv => ?_⟩, fun i x hx => ?_⟩
  · rw [Nat.zero_add]
    exact box_cell hb (by rw [hc, List.getElem?_toArray]; exact flatten_at 5 css h5 i _ (hcs i hi) j v hv)
  · have hi : i < Vs.length := (List.getElem?_eq_some_iff.1 hx).1
    exact (hr i x _ hx (hcs i hi)).later ((below_new w _).step hb)
theorem rdF_new {w w' : World} {fn : List ByteArray} {Vs : List PVal} {css : List (List Value)} {cells : Array Value} {t : TypeId} {n : Nat} (hn : n = Vs.length) (hlen : css.length = Vs.length) (hfn : fn.length = Vs.length) (hfs : ∀ x ∈ fn, x.size ≤ 140737488355328)
    (hc : cells = (List.zipWith (fun a cs => Value.string a :: cs) fn css).flatten.toArray)
    (hr : ∀ (i : Nat) (x : PVal) (cs : List Value), Vs[i]? = some x → css[i]? = some cs → Rd w (Now w) x cs) (hb : Below (w.alloc (.cells cells t)).heap.size (w.alloc (.cells cells t)) w') (hl : Vs.length ≤ 1000) :
    RdF w' (Now w') fn Vs (.slice (some ⟨w.heap.size, 0, none⟩) n n) := by
  subst hn
  have hs := hb.size
  simp only [World.alloc, Array.size_push] at hs
  have h5 : ∀ cs ∈ css, cs.length = 5 := by
    intro cs hcs
    obtain ⟨i, hi⟩ := List.getElem?_of_mem hcs
    have hil : i < Vs.length := by rw [← hlen]; exact (List.getElem?_eq_some_iff.1 hi).1
    exact (hr i _ cs (List.getElem?_eq_getElem hil) hi).len
  have hcs : ∀ i, i < Vs.length → css[i]? = some (css.getD i []) := by
    intro i hi
    have : i < css.length := by omega
    simp [List.getD, List.getElem?_eq_getElem this]
  have hns : ∀ i, i < Vs.length → fn[i]? = some (fn.getD i ByteArray.empty) := by
    intro i hi
    have : i < fn.length := by omega
    simp [List.getD, List.getElem?_eq_getElem this]
  have h6 : ∀ cs ∈ List.zipWith (fun a cs => Value.string a :: cs) fn css, cs.length = 6 := by
    intro cs hcs'
    obtain ⟨i, hi⟩ := List.getElem?_of_mem hcs'
    rw [List.getElem?_zipWith_eq_some] at hi
    obtain ⟨a, c, _, hc', rfl⟩ := hi
    simp [h5 c (List.mem_of_getElem? hc')]
  refine ⟨hfn, hfs, _, _, fun i => css.getD i [], rfl, Nat.le_refl _, ⟨by omega, by omega⟩, .inr ⟨w.heap.size, 0, rfl, by show _ < _; omega, fun i hi j v hv => ?_⟩, fun i x hx => ?_⟩
  · rw [Nat.zero_add]
    refine box_cell hb ?_
    rw [hc, List.getElem?_toArray]
    refine flatten_at 6 _ h6 i _ ?_ j v hv
    rw [List.getElem?_zipWith_eq_some]
    exact ⟨_, _, hns i hi, hcs i hi, rfl⟩
  · have hi : i < Vs.length := (List.getElem?_eq_some_iff.1 hx).1
    exact (hr i x _ hx (hcs i hi)).later ((below_new w _).step hb)

end Go.Proofs.YtihcegakghmdfaaDoor
