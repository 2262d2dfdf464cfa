/-
  Plain: the order of texts; orders put one behind the other.
-/
import Derived.Test.YtdjegpmjhfbamaaDoorPlain
import Derived.WideShapes
namespace Go.Proofs.YtdjegpmjhfbamaaDoor

theorem bytes_anti : ∀ a b, Lib.compareBytes b a = - Lib.compareBytes a b
  | [], [] => rfl
  | [], _ :: _ => rfl
  | _ :: _, [] => rfl
  | a :: ar, b :: br => by
    rw [Lib.compareBytes, Lib.compareBytes]
    by_cases h : a < b
    · have h' : ¬ b < a := fun k => UInt8.lt_irrefl _ (UInt8.lt_trans h k)
      simp [h, h']
    · by_cases h' : b < a
      · simp [h, h']
      · simp [h, h', bytes_anti ar br]
theorem bytes_zero : ∀ a b, Lib.compareBytes a b = 0 ↔ a = b
  | [], [] => by simp [Lib.compareBytes]
  | [], _ :: _ => by simp [Lib.compareBytes]
  | _ :: _, [] => by simp [Lib.compareBytes]
  | a :: ar, b :: br => by
    rw [Lib.compareBytes]
    by_cases h : a < b
    · have : a ≠ b := fun e => UInt8.lt_irrefl b (e ▸ h)
      simp [h, this]
    · by_cases h' : b < a
      · have : a ≠ b := fun e => UInt8.lt_irrefl b (by rw [e] at h'; exact h')
        simp [h, h', this]
      · have : a = b := by
          rw [UInt8.lt_iff_toNat_lt] at h h'
          exact UInt8.toNat_inj.1 (by omega)
        simp [this, bytes_zero ar br, UInt8.lt_irrefl]
theorem bytes_trans : ∀ a b c, Lib.compareBytes a b ≤ 0 → Lib.compareBytes b c ≤ 0 → Lib.compareBytes a c ≤ 0 ∧ (Lib.compareBytes a b < 0 → Lib.compareBytes a c < 0) ∧ (Lib.compareBytes b c < 0 → Lib.compareBytes a c < 0)
  | [], [], [], _, _ => by simp [Lib.compareBytes]
  | [], [], _ :: _, _, _ => by simp [Lib.compareBytes]
  | [], _ :: _, [], _, k => by simp [Lib.compareBytes] at k
  | [], _ :: _, _ :: _, _, _ => by simp [Lib.compareBytes]
  | _ :: _, [], _, h, _ => by simp [Lib.compareBytes] at h
  | _ :: _, _ :: _, [], _, k => by simp [Lib.compareBytes] at k
  | a :: ar, b :: br, c :: cr, h, k => by
    have ih := bytes_trans ar br cr
    simp only [Lib.compareBytes, UInt8.lt_iff_toNat_lt] at h k ⊢
    by_cases h1 : a.toNat < b.toNat
    · by_cases k1 : b.toNat < c.toNat
      · simp [show a.toNat < c.toNat by omega]
      · by_cases k2 : c.toNat < b.toNat
        · simp [k1, k2] at k
        · simp [show a.toNat < c.toNat by omega]
    · by_cases h2 : b.toNat < a.toNat
      · simp [h1, h2] at h
      · by_cases k1 : b.toNat < c.toNat
        · simp [show a.toNat < c.toNat by omega]
        · by_cases k2 : c.toNat < b.toNat
          · simp [k1, k2] at k
          · simp [h1, h2] at h
            simp [k1, k2] at k
            simp [h1, h2, k1, k2, show ¬ a.toNat < c.toNat by omega, show ¬ c.toNat < a.toNat by omega]
            exact ih h k
theorem scmp_anti (a b : ByteArray) : scmp b a = - scmp a b := bytes_anti _ _
theorem scmp_zero {a b : ByteArray} : scmp a b = 0 ↔ a = b := by
  unfold scmp; rw [bytes_zero]
  exact ⟨fun h => Go.WideShapes.bytes_inj h, fun h => by rw [h]⟩
theorem scmp_trans {a b c : ByteArray} (h : scmp a b ≤ 0) (k : scmp b c ≤ 0) : scmp a c ≤ 0 ∧ (scmp a b < 0 → scmp a c < 0) ∧ (scmp b c < 0 → scmp a c < 0) := bytes_trans _ _ _ h k

def lex (x y : Int) : Int := if x ≠ 0 then x else y
theorem lex_neg (x y : Int) : lex (-x) (-y) = - lex x y := by unfold lex; split <;> split <;> omega
theorem lex_zero {x y : Int} : lex x y = 0 ↔ x = 0 ∧ y = 0 := by unfold lex; split <;> omega
theorem lex_zero_left (y : Int) : lex 0 y = y := by simp [lex]
theorem lex_zero_right (x : Int) : lex x 0 = x := by unfold lex; split <;> omega
theorem lex_assoc (x y z : Int) : lex (lex x y) z = lex x (lex y z) := by
  unfold lex
  by_cases h : x = 0 <;> by_cases h' : y = 0 <;> simp [h, h']
/-- Three comparisons fit: an order. -/
def Fit (x y z : Int) : Prop := x ≤ 0 → y ≤ 0 → z ≤ 0 ∧ (x < 0 → z < 0) ∧ (y < 0 → z < 0)
theorem lex_nz {x : Int} (h : x ≠ 0) (y : Int) : lex x y = x := by simp [lex, h]
theorem Fit.lex {x y z x' y' z' : Int} (h : Fit x y z) (k : x = 0 → y = 0 → Fit x' y' z') : Fit (lex x x') (lex y y') (lex z z') := by
  intro h1 h2
  have hx : x ≤ 0 := by
    by_cases e : x = 0
    · omega
    · rw [lex_nz e] at h1; exact h1
  have hy : y ≤ 0 := by
    by_cases e : y = 0
    · omega
    · rw [lex_nz e] at h2; exact h2
  obtain ⟨a, b, c⟩ := h hx hy
  by_cases ez : z = 0
  · have ex : x = 0 := by omega
    have ey : y = 0 := by omega
    rw [ex, lex_zero_left] at h1
    rw [ey, lex_zero_left] at h2
    rw [ex, ey, ez, lex_zero_left, lex_zero_left, lex_zero_left]
    exact k ex ey h1 h2
  · rw [lex_nz ez]
    omega
theorem fit_scmp (a b c : ByteArray) : Fit (scmp a b) (scmp b c) (scmp a c) := scmp_trans
theorem fit_zero : Fit 0 0 0 := by simp [Fit]
theorem less_cmp : ∀ a b : List UInt8, Lib.compareBytes a b = if Op.bytesLess a b then -1 else if Op.bytesLess b a then 1 else 0
  | [], [] => by simp [Lib.compareBytes, Op.bytesLess]
  | [], _ :: _ => by simp [Lib.compareBytes, Op.bytesLess]
  | _ :: _, [] => by simp [Lib.compareBytes, Op.bytesLess]
  | x :: a, y :: b => by
    rw [Lib.compareBytes, less_cmp a b]
    simp only [Op.bytesLess]
    by_cases h1 : x < y
    · simp [h1]
    · by_cases h2 : y < x
      · have h3 : ¬ x = y := fun e => by subst e; exact h1 h2
        simp [h1, h2, h3]
      · have h3 : x = y := UInt8.le_antisymm (UInt8.not_lt.1 h2) (UInt8.not_lt.1 h1)
        subst h3
        simp [h1]
theorem scmp_less (a b : ByteArray) : scmp a b = if blt a b then -1 else if blt b a then 1 else 0 := by
  unfold scmp blt
  rw [ByteArray.toList_eq, ByteArray.toList_eq, less_cmp]
theorem str_ne {a b : ByteArray} (h : a ≠ b) : (a.toList == b.toList) = false := by
  rw [ByteArray.toList_eq, ByteArray.toList_eq, beq_eq_false_iff_ne]
  exact fun e => h (Go.WideShapes.bytes_inj e)
end Go.Proofs.YtdjegpmjhfbamaaDoor
