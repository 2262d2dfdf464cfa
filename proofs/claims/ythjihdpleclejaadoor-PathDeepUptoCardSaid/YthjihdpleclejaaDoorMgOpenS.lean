/-
  A slice of texts that came in, read; each text's size. No condition beyond the row's own reach.
-/
import Derived.Test.YthjihdpleclejaaDoorMgLaid
import Derived.Test.YthjihdpleclejaaDoorMgPthP
import Derived.SliceStrings
import Derived.ChangeSlices
namespace Go.Proofs.YthjihdpleclejaaDoor
open Go.RowKit Go.Proofs Go.Lib Go.ChangeShapes Go.WideShapes

theorem bulk_strs {H : Type} (l : List ByteArray) : ∀ s ∈ l, s.size ≤ Rows.uptoBulkAll ((strs l : List (DataW H))) := by
  induction l with
  | nil => intro s h; simp at h
  | cons x r ih =>
    intro s h
    have hx : x.data.toList.length = x.size := Array.length_toList
    simp only [strs, List.map_cons, Rows.uptoBulkAll, Rows.uptoBulk] at ih ⊢
    rcases List.mem_cons.1 h with rfl | h
    · omega
    · have := ih s h; omega
section
variable {H : Type} {enc : TypeId × Value → H} {w : World} {base : Nat} {spare held : _}
set_option maxRecDepth 100000 in
/-- An argument that is a slice of texts. -/
theorem open_strs {r : Reach} {b0 : Nat} {v : Value} {d : DataW H} {p : List MemPlace} (hv : Value.okWide Tryd.prog w r b0 27 v) (h : DataW.Trod enc Tryd.prog w base spare held 27 v d p) :
    ∃ (l : List ByteArray) (la : Option Addr) (c : Nat), v = .slice la l.length c ∧ StrsAt w (Now w) l (.slice la l.length c) ∧ ∀ s ∈ l, s.size ≤ Rows.uptoBulk d := by
  obtain ⟨a, n, c, rfl⟩ : ∃ a n c, v = .slice a n c := okWide_slice Tryd.underlying27 hv
  obtain ⟨fuel, hf⟩ := h
  have ho := open_strings Tryd.underlying27 Tryd.underlying9 (by kernel_rfl) hf
  rcases ho with ⟨h1, h2⟩ | ⟨a', len, cap, zs, h1, _, hlc, hcm, hzl, h2, hcell, hwf⟩
  · have h1 : Value.slice a n c = .slice none 0 0 := by simpa [Value.cells] using h1
    rw [h1]
    exact ⟨[], none, 0, rfl, ⟨none, 0, rfl, Nat.le_refl _, by simp, .inl rfl⟩, by simp⟩
  · have h1 : Value.slice a n c = .slice (some a') len cap := by simpa [Value.cells] using h1
    have hd : d = .slice (strs (zs.take len)) (strs (zs.drop len)) := congrArg Prod.fst h2
    rw [h1]
    subst hd
    have hlen : len ≤ zs.length := by rw [hzl]; split <;> omega
    have htl : (zs.take len).length = len := by rw [List.length_take]; omega
    refine ⟨zs.take len, some a', cap, by rw [htl], ⟨some a', cap, rfl, by rw [htl]; exact hlc, by unfold maxLen at hcm; omega, ?_⟩, fun s hs => ?_⟩
    · by_cases h0 : len = 0
      · left; subst h0; rfl
      · right
        have hc0 := hcell 0 (by omega)
        have hsp := cell_spot (w := w) (a := a') (by have : a'.add 0 = a' := by (cases a'; unfold Addr.add; split <;> simp_all)
                                                     rw [this] at hc0; exact hc0)
        obtain ⟨b, off, sp⟩ := a'
        simp only at hsp
        subst hsp
        refine ⟨b, off, rfl, ?_, fun j x hx => ?_⟩
        · rw [addr_add] at hc0
          exact World.block_lt_of_cell? w _ hc0
        · have hj : j < len := by rw [← htl]; exact (List.getElem?_eq_some_iff.1 hx).1
          have := hcell j (by omega)
          rw [addr_add] at this
          rw [this]
          rw [List.getElem?_take, if_pos hj] at hx
          simp [List.getD, hx]
    · have := bulk_strs (H := H) (zs.take len) s hs
      simp only [Rows.uptoBulk]
      omega
end
end Go.Proofs.YthjihdpleclejaaDoor
