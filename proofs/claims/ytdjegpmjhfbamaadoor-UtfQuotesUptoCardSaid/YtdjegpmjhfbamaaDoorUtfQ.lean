/-
  Plain: a text's characters.
-/
import Derived.Test.YtdjegpmjhfbamaaDoorUtfP
namespace Go.Proofs.YtdjegpmjhfbamaaDoor
open Go Go.Lib

theorem nextN_some {n b0 b1 b2 b3 v sz : Nat} (h : nextN n b0 b1 b2 b3 = some (v, sz)) (hn : 1 ≤ n) : 1 ≤ sz ∧ sz ≤ n ∧ sz ≤ 4 ∧ v ≤ 1114111 := by
  have fin : ∀ {v' low sz'}, finN v' low sz' = some (v, sz) → sz = sz' ∧ v ≤ 1114111 := by
    intro v' low sz' h
    unfold finN at h
    split at h
    · injection h with h
      injection h with h1 h2
      omega
    · cases h
  unfold nextN at h
  split at h
  · have := fin h; omega
  split at h
  · cases h
  split at h
  · split at h
    · cases h
    · have := fin h; omega
  split at h
  · split at h
    · cases h
    · have := fin h; omega
  split at h
  · split at h
    · cases h
    · have := fin h; omega
  · cases h

/-- The first character, and how many bytes it has. -/
def stepD (l : List UInt8) : Option (Nat × Nat) := nextN l.length (l.getD 0 0).toNat (l.getD 1 0).toNat (l.getD 2 0).toNat (l.getD 3 0).toNat
theorem stepD_some {l : List UInt8} {v sz : Nat} (h : stepD l = some (v, sz)) (hl : l ≠ []) : 1 ≤ sz ∧ sz ≤ l.length ∧ sz ≤ 4 ∧ v ≤ 1114111 :=
  nextN_some h (List.length_pos_iff.2 hl)
def runesG : Nat → List UInt8 → Option (List Nat)
  | 0, _ => some []
  | n + 1, l => if l = [] then some [] else match stepD l with
    | none => none
    | some (v, sz) => (runesG n (l.drop sz)).map (v :: ·)
def runesD (l : List UInt8) : Option (List Nat) := runesG l.length l
theorem runesG_nil (n : Nat) : runesG n [] = some [] := by cases n <;> rfl
theorem runesG_fuel : ∀ (n m : Nat) (l : List UInt8), l.length ≤ n → l.length ≤ m → runesG n l = runesG m l
  | 0, m, l, hn, _ => by
    obtain rfl : l = [] := List.eq_nil_of_length_eq_zero (by omega)
    rw [runesG_nil, runesG_nil]
  | n + 1, 0, l, _, hm => by
    obtain rfl : l = [] := List.eq_nil_of_length_eq_zero (by omega)
    rw [runesG_nil, runesG_nil]
  | n + 1, m + 1, l, hn, hm => by
    by_cases hl : l = []
    · subst hl; rw [runesG_nil, runesG_nil]
    · simp only [runesG, hl, if_false]
      cases h : stepD l with
      | none => rfl
      | some p =>
        obtain ⟨v, sz⟩ := p
        have := stepD_some h hl
        show (runesG n (l.drop sz)).map _ = (runesG m (l.drop sz)).map _
        rw [runesG_fuel n m (l.drop sz) (by rw [List.length_drop]; omega) (by rw [List.length_drop]; omega)]
theorem runesD_nil : runesD [] = some [] := rfl
theorem runesD_step {l : List UInt8} (hl : l ≠ []) : runesD l = match stepD l with
    | none => none
    | some (v, sz) => (runesD (l.drop sz)).map (v :: ·) := by
  unfold runesD
  obtain ⟨n, hn⟩ : ∃ n, l.length = n + 1 := ⟨l.length - 1, by have := List.length_pos_iff.2 hl; omega⟩
  rw [hn]
  simp only [runesG, hl, if_false]
  cases h : stepD l with
  | none => rfl
  | some p =>
    obtain ⟨v, sz⟩ := p
    have := stepD_some h hl
    show (runesG n (l.drop sz)).map _ = (runesG (l.drop sz).length (l.drop sz)).map _
    rw [runesG_fuel n (l.drop sz).length (l.drop sz) (by rw [List.length_drop]; omega) (Nat.le_refl _)]
theorem runesD_bad {l : List UInt8} (hl : l ≠ []) (h : stepD l = none) : runesD l = none := by rw [runesD_step hl, h]
theorem runesD_ok {l : List UInt8} {v sz : Nat} (hl : l ≠ []) (h : stepD l = some (v, sz)) : runesD l = (runesD (l.drop sz)).map (v :: ·) := by rw [runesD_step hl, h]
/-- Read whole or not: as the library says. -/
theorem runesD_valid : ∀ (n : Nat) (l : List UInt8), l.length = n → (runesD l).isSome = validD l := by
  intro n
  induction n using Nat.strongRecOn with
  | _ n ih =>
    intro l hn
    by_cases hl : l = []
    · subst hl; rfl
    · have hd := next_decode l.length (l.getD 0 0).toNat (l.getD 1 0).toNat (l.getD 2 0).toNat (l.getD 3 0).toNat (UInt8.toNat_lt _) (UInt8.toNat_lt _) (UInt8.toNat_lt _) (UInt8.toNat_lt _)
      rw [validD_step l hl, decodeL_N]
      generalize decodeN l.length (l.getD 0 0).toNat (l.getD 1 0).toNat (l.getD 2 0).toNat (l.getD 3 0).toNat = D at *
      by_cases hb : D.1 = 65533 ∧ D.2 = 1
      · rw [if_pos hb] at hd
        rw [if_pos hb, runesD_bad hl hd]
        rfl
      · rw [if_neg hb] at hd
        have hs : stepD l = some (D.1, D.2) := hd
        have := stepD_some hs hl
        rw [if_neg hb, runesD_ok hl hs, Option.isSome_map]
        exact ih _ (by rw [List.length_drop]; omega) _ rfl
end Go.Proofs.YtdjegpmjhfbamaaDoor
