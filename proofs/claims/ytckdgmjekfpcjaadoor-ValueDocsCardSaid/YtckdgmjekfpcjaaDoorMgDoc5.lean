/-
  A slice of fields that came in, read. No condition beyond the row's own reach.
-/
import Derived.Test.YtckdgmjekfpcjaaDoorMgLaid
import Derived.Test.YtckdgmjekfpcjaaDoorMgDoc4
namespace Go.Proofs.YtckdgmjekfpcjaaDoor
open Go.RowKit Go.Proofs Go.Lib Go.ChangeShapes Go.WideShapes
section
variable {H : Type} {enc : TypeId × Value → H} {w : World} {base : Nat} {spare held : _}
set_option maxRecDepth 100000 in
/-- An argument that is a slice of fields. -/
theorem open_fields {r : Reach} {b0 : Nat} {v : Value} {d : DataW H} {p : List MemPlace} (hv : Value.okWide Tryd.prog w r b0 22 v) (h : DataW.Trod enc Tryd.prog w base spare held 22 v d p) (hw : ∀ k ∈ DataW.weights Tryd.prog 22 d, k ≤ reachBytes) :
    ∃ (fn : List ByteArray) (fv : List PVal) (la : Option Addr) (c : Nat), v = .slice la fv.length c ∧ RdF w (Now w) fn fv (.slice la fv.length c) := by
  obtain ⟨a, n, c, rfl⟩ : ∃ a n c, v = .slice a n c := okWide_slice Tryd.underlying22 hv
  obtain ⟨fuel, hf⟩ := h
  obtain ⟨fn, fv, hl, _⟩ := rdF_of (fun m _ cs x => rd_of m cs x) hf hw
  have hl0 := hl
  obtain ⟨_, _, la, cap, cs, hv, _⟩ := hl0
  have hv : Value.slice a n c = .slice la fv.length cap := by simpa [Value.cells] using hv
  rw [hv]
  refine ⟨fn, fv, la, cap, rfl, ?_⟩
  rw [← hv]
  simpa [Value.cells] using hl
end
end Go.Proofs.YtckdgmjekfpcjaaDoor
