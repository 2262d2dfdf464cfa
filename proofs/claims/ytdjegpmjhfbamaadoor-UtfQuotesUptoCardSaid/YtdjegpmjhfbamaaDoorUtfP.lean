/-
  Plain: a character's decoding, as the reference reads it, is the kit's.
-/
import Derived.Lib.ValidLaws
namespace Go.Proofs.YtdjegpmjhfbamaaDoor
open Go Go.Lib

def finN (v low sz : Nat) : Option (Nat × Nat) := if low ≤ v ∧ v ≤ 1114111 ∧ (v < 55296 ∨ 57343 < v) then some (v, sz) else none
def nextN (n b0 b1 b2 b3 : Nat) : Option (Nat × Nat) :=
  if b0 < 128 then finN b0 0 1
  else if b0 < 192 then none
  else if b0 < 224 then (if n < 2 ∨ b1 < 128 ∨ 192 ≤ b1 then none else finN ((b0 - 192) * 64 + b1 - 128) 128 2)
  else if b0 < 240 then (if n < 3 ∨ b1 < 128 ∨ 192 ≤ b1 ∨ b2 < 128 ∨ 192 ≤ b2 then none else finN (((b0 - 224) * 64 + b1 - 128) * 64 + b2 - 128) 2048 3)
  else if b0 < 248 then (if n < 4 ∨ b1 < 128 ∨ 192 ≤ b1 ∨ b2 < 128 ∨ 192 ≤ b2 ∨ b3 < 128 ∨ 192 ≤ b3 then none else finN ((((b0 - 240) * 64 + b1 - 128) * 64 + b2 - 128) * 64 + b3 - 128) 65536 4)
  else none

set_option maxRecDepth 100000 in
set_option maxHeartbeats 8000000 in
theorem next_decode (n b0 b1 b2 b3 : Nat) (h0 : b0 < 256) (h1 : b1 < 256) (h2 : b2 < 256) (h3 : b3 < 256) :
    nextN n b0 b1 b2 b3 = if (decodeN n b0 b1 b2 b3).1 = 65533 ∧ (decodeN n b0 b1 b2 b3).2 = 1 then none else some (decodeN n b0 b1 b2 b3) := by
  have bad : ∀ D : Nat × Nat, D = (65533, 1) → (none : Option (Nat × Nat)) = if D.1 = 65533 ∧ D.2 = 1 then none else some D := fun D h => by subst h; simp
  have ok : ∀ (D : Nat × Nat) (v sz : Nat), D = (v, sz) → (v ≠ 65533 ∨ sz ≠ 1) → some (v, sz) = if D.1 = 65533 ∧ D.2 = 1 then none else some D := fun D v sz h k => by
    subst h
    rw [if_neg (by omega)]
  unfold nextN
  by_cases c0 : b0 < 128
  · have hD : decodeN n b0 b1 b2 b3 = (b0, 1) := by unfold decodeN; rw [if_pos c0]
    rw [if_pos c0, finN, if_pos (by omega)]
    exact ok _ _ _ hD (.inl (by omega))
  rw [if_neg c0]
  by_cases c1 : b0 < 192
  · have hD : decodeN n b0 b1 b2 b3 = (65533, 1) := by unfold decodeN; rw [if_neg c0, if_neg (by omega), if_neg (by omega), if_neg (by omega)]
    rw [if_pos c1]
    exact bad _ hD
  rw [if_neg c1]
  by_cases c2 : b0 < 224
  · rw [if_pos c2]
    by_cases c : n < 2 ∨ b1 < 128 ∨ 192 ≤ b1
    · have hD : decodeN n b0 b1 b2 b3 = (65533, 1) := by unfold decodeN; rw [if_neg c0, if_neg (by omega), if_neg (by omega), if_neg (by omega)]
      rw [if_pos c]
      exact bad _ hD
    · have e : (b0 - 192) * 64 + b1 - 128 = b0 % 32 * 64 + b1 % 64 := by omega
      rw [if_neg c, e, finN]
      by_cases d : b0 % 32 * 64 + b1 % 64 ≥ 128
      · have hD : decodeN n b0 b1 b2 b3 = (b0 % 32 * 64 + b1 % 64, 2) := by unfold decodeN; rw [if_neg c0, if_pos (by omega), if_pos d]
        rw [if_pos (by omega)]
        exact ok _ _ _ hD (.inr (by omega))
      · have hD : decodeN n b0 b1 b2 b3 = (65533, 1) := by unfold decodeN; rw [if_neg c0, if_pos (by omega), if_neg d]
        rw [if_neg (by omega)]
        exact bad _ hD
  rw [if_neg c2]
  by_cases c3 : b0 < 240
  · rw [if_pos c3]
    by_cases c : n < 3 ∨ b1 < 128 ∨ 192 ≤ b1 ∨ b2 < 128 ∨ 192 ≤ b2
    · have hD : decodeN n b0 b1 b2 b3 = (65533, 1) := by unfold decodeN; rw [if_neg c0, if_neg (by omega), if_neg (by omega), if_neg (by omega)]
      rw [if_pos c]
      exact bad _ hD
    · have e : ((b0 - 224) * 64 + b1 - 128) * 64 + b2 - 128 = b0 % 16 * 4096 + b1 % 64 * 64 + b2 % 64 := by omega
      rw [if_neg c, e, finN]
      by_cases d : b0 % 16 * 4096 + b1 % 64 * 64 + b2 % 64 ≥ 2048 ∧ (b0 % 16 * 4096 + b1 % 64 * 64 + b2 % 64 < 55296 ∨ (57344 ≤ b0 % 16 * 4096 + b1 % 64 * 64 + b2 % 64 ∧ b0 % 16 * 4096 + b1 % 64 * 64 + b2 % 64 ≤ 1114111))
      · have hD : decodeN n b0 b1 b2 b3 = (b0 % 16 * 4096 + b1 % 64 * 64 + b2 % 64, 3) := by unfold decodeN; rw [if_neg c0, if_neg (by omega), if_pos (by omega), if_pos d]
        rw [if_pos (by omega)]
        exact ok _ _ _ hD (.inr (by omega))
      · have hD : decodeN n b0 b1 b2 b3 = (65533, 1) := by unfold decodeN; rw [if_neg c0, if_neg (by omega), if_pos (by omega), if_neg d]
        rw [if_neg (by omega)]
        exact bad _ hD
  rw [if_neg c3]
  by_cases c4 : b0 < 248
  · rw [if_pos c4]
    by_cases c : n < 4 ∨ b1 < 128 ∨ 192 ≤ b1 ∨ b2 < 128 ∨ 192 ≤ b2 ∨ b3 < 128 ∨ 192 ≤ b3
    · have hD : decodeN n b0 b1 b2 b3 = (65533, 1) := by unfold decodeN; rw [if_neg c0, if_neg (by omega), if_neg (by omega), if_neg (by omega)]
      rw [if_pos c]
      exact bad _ hD
    · have e : (((b0 - 240) * 64 + b1 - 128) * 64 + b2 - 128) * 64 + b3 - 128 = b0 % 8 * 262144 + b1 % 64 * 4096 + b2 % 64 * 64 + b3 % 64 := by omega
      rw [if_neg c, e, finN]
      by_cases d : b0 % 8 * 262144 + b1 % 64 * 4096 + b2 % 64 * 64 + b3 % 64 ≥ 65536 ∧ (b0 % 8 * 262144 + b1 % 64 * 4096 + b2 % 64 * 64 + b3 % 64 < 55296 ∨ (57344 ≤ b0 % 8 * 262144 + b1 % 64 * 4096 + b2 % 64 * 64 + b3 % 64 ∧ b0 % 8 * 262144 + b1 % 64 * 4096 + b2 % 64 * 64 + b3 % 64 ≤ 1114111))
      · have hD : decodeN n b0 b1 b2 b3 = (b0 % 8 * 262144 + b1 % 64 * 4096 + b2 % 64 * 64 + b3 % 64, 4) := by unfold decodeN; rw [if_neg c0, if_neg (by omega), if_neg (by omega), if_pos (by omega), if_pos d]
        rw [if_pos (by omega)]
        exact ok _ _ _ hD (.inr (by omega))
      · have hD : decodeN n b0 b1 b2 b3 = (65533, 1) := by unfold decodeN; rw [if_neg c0, if_neg (by omega), if_neg (by omega), if_pos (by omega), if_neg d]
        rw [if_neg (by omega)]
        exact bad _ hD
  · have hD : decodeN n b0 b1 b2 b3 = (65533, 1) := by unfold decodeN; rw [if_neg c0, if_neg (by omega), if_neg (by omega), if_neg (by omega)]
    rw [if_neg c4]
    exact bad _ hD
end Go.Proofs.YtdjegpmjhfbamaaDoor
