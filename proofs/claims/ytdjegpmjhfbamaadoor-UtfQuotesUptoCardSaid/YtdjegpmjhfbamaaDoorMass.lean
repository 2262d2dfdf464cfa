/-
  Plain: a value's mass.
-/
import Derived.Test.YtdjegpmjhfbamaaDoorPlain
namespace Go.Proofs.YtdjegpmjhfbamaaDoor

mutual
/-- What a value weighs: its letters, and a sum for each part and name. -/
def PVal.mass : PVal → Nat
  | .mk _ _ s l fn fv => 32 + s.size + massL l + massF fn + massL fv
def massL : List PVal → Nat
  | [] => 0
  | x :: r => x.mass + massL r
def massF : List ByteArray → Nat
  | [] => 0
  | a :: r => 32 + a.size + massF r
end
theorem mass_mem {l : List PVal} {x : PVal} (h : x ∈ l) : x.mass ≤ massL l := by
  induction l with
  | nil => cases h
  | cons y r ih =>
    simp only [massL]
    rcases List.mem_cons.1 h with rfl | h
    · omega
    · have := ih h; omega
theorem massF_mem {l : List ByteArray} {x : ByteArray} (h : x ∈ l) : x.size ≤ massF l := by
  induction l with
  | nil => cases h
  | cons y r ih =>
    simp only [massF]
    rcases List.mem_cons.1 h with rfl | h
    · omega
    · have := ih h; omega
theorem parts_mass (V : PVal) : ∀ x ∈ V.parts, x.mass ≤ V.mass := by
  obtain ⟨k, n, s, l, fn, fv⟩ := V
  intro x hx
  simp only [PVal.parts] at hx
  simp only [PVal.mass]
  split at hx
  · have := mass_mem hx; omega
  · split at hx
    · have := mass_mem hx; omega
    · cases hx
end Go.Proofs.YtdjegpmjhfbamaaDoor
