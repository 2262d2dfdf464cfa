/-
  Walks: sized, less; slices that were just laid.
-/
import Derived.Test.YtdjegpmjhfbamaaDoorVal16
namespace Go.Proofs.YtdjegpmjhfbamaaDoor
open Go.RowKit Go.Proofs

theorem rdL_new {w w' : World} {Vs : List PVal} {css : List (List Value)} {cells : Array Value} {t : TypeId} {n : Nat} (hn : n = Vs.length) (hlen : css.length = Vs.length) (hc : cells = css.flatten.toArray)
    (hr : ∀ (i : Nat) (x : PVal) (cs : List Value), Vs[i]? = some x → css[i]? = some cs → Rd w (Now w) x cs) (hb : Below (w.alloc (.cells cells t)).heap.size (w.alloc (.cells cells t)) w') (hl : Vs.length ≤ 1000) :
    RdL w' (Now w') Vs (.slice (some ⟨w.heap.size, 0, none⟩) n n) := by
  subst hn
  have hs := hb.size
  simp only [World.alloc, Array.size_push] at hs
  have h5 : ∀ cs ∈ css, cs.length = 5 := by
    intro cs hcs
    obtain ⟨i, hi⟩ := List.getElem?_of_mem hcs
    have hil : i < Vs.length := by rw [← hlen]; exact (List.getElem?_eq_some_iff.1 hi).1
    exact (hr i _ cs (List.getElem?_eq_getElem hil) hi).len
  have hcs : ∀ i, i < Vs.length → css[i]? = some (css.getD i []) := by
    intro i hi
    have : i < css.length := by omega
    simp [List.getD, List.getElem?_eq_getElem this]
  refine ⟨_, _, fun i => css.getD i [], rfl, Nat.le_refl _, ⟨by omega, by omega⟩, .inr ⟨w.heap.size, 0, rfl, by show _ < _; omega, fun i hi j v hv => ?_⟩, fun i x hx => ?_⟩
  · rw [Nat.zero_add]
    exact box_cell hb (by rw [hc, List.getElem?_toArray]; exact flatten_at 5 css h5 i _ (hcs i hi) j v hv)
  · have hi : i < Vs.length := (List.getElem?_eq_some_iff.1 hx).1
    exact (hr i x _ hx (hcs i hi)).later ((below_new w _).step hb)
theorem rdF_new {w w' : World} {fn : List ByteArray} {Vs : List PVal} {css : List (List Value)} {cells : Array Value} {t : TypeId} {n : Nat} (hn : n = Vs.length) (hlen : css.length = Vs.length) (hfn : fn.length = Vs.length) (hfs : ∀ x ∈ fn, x.size ≤ 140737488355328)
    (hc : cells = (List.zipWith (fun a cs => Value.string a :: cs) fn css).flatten.toArray)
    (hr : ∀ (i : Nat) (x : PVal) (cs : List Value), Vs[i]? = some x → css[i]? = some cs → Rd w (Now w) x cs) (hb : Below (w.alloc (.cells cells t)).heap.size (w.alloc (.cells cells t)) w') (hl : Vs.length ≤ 1000) :
    RdF w' (Now w') fn Vs (.slice (some ⟨w.heap.size, 0, none⟩) n n) := by
  subst hn
  have hs := hb.size
  simp only [World.alloc, Array.size_push] at hs
  have h5 : ∀ cs ∈ css, cs.length = 5 := by
    intro cs hcs
    obtain ⟨i, hi⟩ := List.getElem?_of_mem hcs
    have hil : i < Vs.length := by rw [← hlen]; exact (List.getElem?_eq_some_iff.1 hi).1
    exact (hr i _ cs (List.getElem?_eq_getElem hil) hi).len
  have hcs : ∀ i, i < Vs.length → css[i]? = some (css.getD i []) := by
    intro i hi
    have : i < css.length := by omega
    simp [List.getD, List.getElem?_eq_getElem this]
  have hns : ∀ i, i < Vs.length → fn[i]? = some (fn.getD i ByteArray.empty) := by
    intro i hi
    have : i < fn.length := by omega
    simp [List.getD, List.getElem?_eq_getElem this]
  have h6 : ∀ cs ∈ List.zipWith (fun a cs => Value.string a :: cs) fn css, cs.length = 6 := by
    intro cs hcs'
    obtain ⟨i, hi⟩ := List.getElem?_of_mem hcs'
    rw [List.getElem?_zipWith_eq_some] at hi
    obtain ⟨a, c, _, hc', rfl⟩ := hi
    simp [h5 c (List.mem_of_getElem? hc')]
  refine ⟨hfn, hfs, _, _, fun i => css.getD i [], rfl, Nat.le_refl _, ⟨by omega, by omega⟩, .inr ⟨w.heap.size, 0, rfl, by show _ < _; omega, fun i hi j v hv => ?_⟩, fun i x hx => ?_⟩
  · rw [Nat.zero_add]
    refine box_cell hb ?_
    rw [hc, List.getElem?_toArray]
    refine flatten_at 6 _ h6 i _ ?_ j v hv
    rw [List.getElem?_zipWith_eq_some]
    exact ⟨_, _, hns i hi, hcs i hi, rfl⟩
  · have hi : i < Vs.length := (List.getElem?_eq_some_iff.1 hx).1
    exact (hr i x _ hx (hcs i hi)).later ((below_new w _).step hb)

set_option maxRecDepth 100000 in
theorem sized_calls (V : PVal) (n : Nat) (w : World) (cs : List Value) (hN : V.nodes ≤ 20000) (hT : Tabs w) (hV : Rd w (Now w) V cs) (hg : V.good = 0) (hn : V.size = n) :
    Calls Tryd.prog 55 #[.agg cs.toArray, .int .i64 n] w fun e w' => e = .returned (.bool true) ∧ Below w.heap.size w w' := by
  have hs := hid (fun w cs hT hV => size_tells V w cs hN hT hV)
  rw [hg, hn] at hs
  have hT := hid hT
  have hV0 := hid hV
  clear hn hg
  obtain ⟨k, m, s, l, fn, fv⟩ := V
  obtain ⟨la, lc, fa, fc, rfl, _⟩ := hV.inv
  clear hV
  go_enter Tryd.func55, Tryd.ntmps55
  go_wp2_with fail
  refine (hs.out _ _ (Tabs.stays _ _ hT.out (below_new _ _)) (hV0.out.later (below_new _ _))).mono ?_
  rintro e w1 ⟨rfl, h1⟩
  have hb1 := hid ((below_new w _).step h1)
  go_wp2_with fail
  go_ret
  exact ⟨rfl, hb1.out⟩

set_option maxRecDepth 100000 in
theorem less_calls (V V' : PVal) (w : World) (cs cs' : List Value) (hN : V.nodes ≤ 20000) (hN' : V'.nodes ≤ 20000) (hT : Tabs w) (hV : Rd w (Now w) V cs) (hV' : Rd w (Now w) V' cs') (hg : V.good = 0) (hg' : V'.good = 0) (hc : cmpV V V' = -1) (hc' : cmpV V' V = 1) :
    Calls Tryd.prog 56 #[.agg cs.toArray, .agg cs'.toArray] w fun e w' => e = .returned (.bool true) ∧ Below w.heap.size w w' := by
  have h1 := hid (fun w cs cs' hT hV hV' => compare_tells V V' w cs cs' hN hN' hT hV hV')
  have h2 := hid (fun w cs cs' hT hV hV' => compare_tells V' V w cs cs' hN' hN hT hV hV')
  rw [hg, hg', hc, show orI [0, 0] = 0 from rfl] at h1
  rw [hg, hg', hc', show orI [0, 0] = 0 from rfl] at h2
  have hT := hid hT
  have hV0 := hid hV
  have hV0' := hid hV'
  clear hg hg' hc hc'
  obtain ⟨k, n, s, l, fn, fv⟩ := V
  obtain ⟨k', n', s', l', fn', fv'⟩ := V'
  obtain ⟨la, lc, fa, fc, rfl, _⟩ := hV.inv
  obtain ⟨la', lc', fa', fc', rfl, _⟩ := hV'.inv
  clear hV hV'
  have hb2 := hid ((below_new w (.cells #[.int .i64 k, .int .i64 n, .string s, .slice la l.length lc, .slice fa fv.length fc] 52)).step (below_new (w.alloc (.cells #[.int .i64 k, .int .i64 n, .string s, .slice la l.length lc, .slice fa fv.length fc] 52)) (.cells #[.int .i64 k', .int .i64 n', .string s', .slice la' l'.length lc', .slice fa' fv'.length fc'] 52)))
  go_enter Tryd.func56, Tryd.ntmps56
  go_wp2_with fail
  refine (h1.out _ _ _ (Tabs.stays _ _ hT.out hb2.out) (hV0.out.later hb2.out) (hV0'.out.later hb2.out)).mono ?_
  rintro e w1 ⟨rfl, k1⟩
  obtain ⟨kA, kB⟩ := two_cells k1
  have A0 := kA 0 _ rfl
  have A1 := kA 1 _ rfl
  have A2 := kA 2 _ rfl
  have A3 := kA 3 _ rfl
  have A4 := kA 4 _ rfl
  have B0 := kB 0 _ rfl
  have B1 := kB 1 _ rfl
  have B2 := kB 2 _ rfl
  have B3 := kB 3 _ rfl
  have B4 := kB 4 _ rfl
  clear kA kB
  have hb3 := hid (hb2.out.step k1)
  go_wp2_with fail
  refine (h2.out _ _ _ (Tabs.stays _ _ hT.out hb3.out) (hV0'.out.later hb3.out) (hV0.out.later hb3.out)).mono ?_
  rintro e w2 ⟨rfl, k2⟩
  go_wp2_with fail
  go_ret
  exact ⟨rfl, hb3.out.step k2⟩
end Go.Proofs.YtdjegpmjhfbamaaDoor
