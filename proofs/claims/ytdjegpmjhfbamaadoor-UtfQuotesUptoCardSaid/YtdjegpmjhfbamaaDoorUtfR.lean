/-
  Plain: a character's bytes, written and read back: texts and their characters, both ways.
-/
import Derived.Test.YtdjegpmjhfbamaaDoorUtfQ
import Derived.Lib.RuneBytes
namespace Go.Proofs.YtdjegpmjhfbamaaDoor
open Go Go.Lib

/-- A number that is a character. -/
def Ch (v : Nat) : Prop := v < 55296 ∨ (57343 < v ∧ v ≤ 1114111)
theorem finN_inv {v low sz a b : Nat} (h : finN v low sz = some (a, b)) : a = v ∧ b = sz ∧ low ≤ v ∧ Ch v := by
  unfold finN at h
  split at h
  · rename_i hc
    injection h with h
    injection h with h1 h2
    refine ⟨h1.symm, h2.symm, hc.1, ?_⟩
    unfold Ch; omega
  · cases h

set_option maxRecDepth 100000 in
set_option maxHeartbeats 4000000 in
/-- What is read was written so. -/
theorem next_enc {n b0 b1 b2 b3 v sz : Nat} (h0 : b0 < 256) (h1 : b1 < 256) (h2 : b2 < 256) (h3 : b3 < 256) (h : nextN n b0 b1 b2 b3 = some (v, sz)) :
    Ch v ∧ encodeRuneZ v = ([b0, b1, b2, b3].take sz).map Int.ofNat := by
  unfold nextN at h
  split at h
  · obtain ⟨rfl, rfl, _, hc⟩ := finN_inv h
    exact ⟨hc, by rw [encodeRuneZ_one (by omega) (by omega)]; rfl⟩
  split at h
  · cases h
  split at h
  · split at h
    · cases h
    · obtain ⟨rfl, rfl, hl, hc⟩ := finN_inv h
      refine ⟨hc, ?_⟩
      rw [encodeRuneZ_two (by omega) (by omega)]
      simp only [List.take, List.map, List.cons.injEq, and_true]
      refine ⟨?_, ?_⟩ <;> (show _ = ((_ : Nat) : Int)) <;> omega
  split at h
  · split at h
    · cases h
    · obtain ⟨rfl, rfl, hl, hc⟩ := finN_inv h
      refine ⟨hc, ?_⟩
      rw [encodeRuneZ_three (by unfold Ch at hc; omega)]
      simp only [List.take, List.map, List.cons.injEq, and_true]
      refine ⟨?_, ?_, ?_⟩ <;> (show _ = ((_ : Nat) : Int)) <;> omega
  split at h
  · split at h
    · cases h
    · obtain ⟨rfl, rfl, hl, hc⟩ := finN_inv h
      refine ⟨hc, ?_⟩
      rw [encodeRuneZ_four (by omega) (by unfold Ch at hc; omega)]
      simp only [List.take, List.map, List.cons.injEq, and_true]
      refine ⟨?_, ?_, ?_, ?_⟩ <;> (show _ = ((_ : Nat) : Int)) <;> omega
  · cases h

set_option maxHeartbeats 4000000 in
/-- What is written is read so. -/
theorem enc_next {v : Nat} (hv : Ch v) (n b0 b1 b2 b3 : Nat) (hn : (encodeRuneZ v).length ≤ n) (h0 : (encodeRuneZ v)[0]? = some (b0 : Int)) (h1 : ∀ x, (encodeRuneZ v)[1]? = some x → x = (b1 : Int)) (h2 : ∀ x, (encodeRuneZ v)[2]? = some x → x = (b2 : Int)) (h3 : ∀ x, (encodeRuneZ v)[3]? = some x → x = (b3 : Int)) :
    nextN n b0 b1 b2 b3 = some (v, (encodeRuneZ v).length) := by
  unfold Ch at hv
  have fin : ∀ x low sz, x = v → low ≤ v → finN x low sz = some (v, sz) := fun x low sz e hl => by
    subst e
    unfold finN
    rw [if_pos (by omega)]
  by_cases c1 : v ≤ 127
  · rw [encodeRuneZ_one (by omega) (by omega)] at *
    have e0 : (v : Int) = b0 := by simpa using h0
    unfold nextN
    rw [if_pos (by omega)]
    exact fin _ _ _ (by omega) (by omega)
  by_cases c2 : v ≤ 2047
  · rw [encodeRuneZ_two (by omega) (by omega)] at *
    have e0 : 192 + (v : Int) / 64 = b0 := by simpa using h0
    have e1 : 128 + (v : Int) % 64 = b1 := h1 _ rfl
    simp at hn
    unfold nextN
    rw [if_neg (by omega), if_neg (by omega), if_pos (by omega), if_neg (by omega)]
    exact fin _ _ _ (by omega) (by omega)
  by_cases c3 : v ≤ 65535
  · rw [encodeRuneZ_three (by omega)] at *
    have e0 : 224 + (v : Int) / 4096 = b0 := by simpa using h0
    have e1 : 128 + (v : Int) / 64 % 64 = b1 := h1 _ rfl
    have e2 : 128 + (v : Int) % 64 = b2 := h2 _ rfl
    simp at hn
    unfold nextN
    rw [if_neg (by omega), if_neg (by omega), if_neg (by omega), if_pos (by omega), if_neg (by omega)]
    exact fin _ _ _ (by omega) (by omega)
  · rw [encodeRuneZ_four (by omega) (by omega)] at *
    have e0 : 240 + (v : Int) / 262144 = b0 := by simpa using h0
    have e1 : 128 + (v : Int) / 4096 % 64 = b1 := h1 _ rfl
    have e2 : 128 + (v : Int) / 64 % 64 = b2 := h2 _ rfl
    have e3 : 128 + (v : Int) % 64 = b3 := h3 _ rfl
    simp at hn
    unfold nextN
    rw [if_neg (by omega), if_neg (by omega), if_neg (by omega), if_neg (by omega), if_pos (by omega), if_neg (by omega)]
    exact fin _ _ _ (by omega) (by omega)

theorem enc_len (v : Int) : (encodeRune v).length = (encodeRuneZ v).length := by simp [encodeRune]
theorem enc_get (v : Int) (j : Nat) (x : Int) (h : (encodeRuneZ v)[j]? = some x) (r : List UInt8) : (((encodeRune v ++ r).getD j 0).toNat : Int) = x := by
  have hb := encodeRuneZ_byte v x (List.mem_of_getElem? h)
  have hj : j < (encodeRuneZ v).length := (List.getElem?_eq_some_iff.1 h).1
  have : (encodeRune v ++ r)[j]? = some x.toNat.toUInt8 := by
    rw [List.getElem?_append_left (by rw [enc_len]; exact hj)]
    simp [encodeRune, h]
  simp only [List.getD, this, Option.getD_some]
  simp
  omega
theorem step_enc {v : Nat} (hv : Ch v) (r : List UInt8) : stepD (encodeRune v ++ r) = some (v, (encodeRune v).length) := by
  have hl := encodeRuneZ_length v
  rw [enc_len]
  refine enc_next hv _ _ _ _ _ (by rw [List.length_append, enc_len]; omega) ?_ ?_ ?_ ?_
  · have h0 : (encodeRuneZ v)[0]? = some ((encodeRuneZ v)[0]'(by omega)) := List.getElem?_eq_getElem (by omega)
    rw [h0, enc_get v 0 _ h0 r]
  · exact fun x hx => (enc_get v 1 _ hx r).symm
  · exact fun x hx => (enc_get v 2 _ hx r).symm
  · exact fun x hx => (enc_get v 3 _ hx r).symm

theorem take_getD (l : List UInt8) (sz : Nat) (h : sz ≤ l.length) (h4 : sz ≤ 4) : (([(l.getD 0 0).toNat, (l.getD 1 0).toNat, (l.getD 2 0).toNat, (l.getD 3 0).toNat].take sz).map Int.ofNat).map (fun x => x.toNat.toUInt8) = l.take sz := by
  match sz, l, h with
  | 0, _, _ => simp
  | 1, a :: r, _ => simp
  | 2, a :: b :: r, _ => simp
  | 3, a :: b :: c :: r, _ => simp
  | 4, a :: b :: c :: d :: r, _ => simp
  | _ + 5, _, _ => omega
theorem step_inv {l : List UInt8} {v sz : Nat} (hl : l ≠ []) (h : stepD l = some (v, sz)) : Ch v ∧ encodeRune v = l.take sz ∧ sz = (encodeRune v).length := by
  have hs := stepD_some h hl
  obtain ⟨hc, he⟩ := next_enc (UInt8.toNat_lt _) (UInt8.toNat_lt _) (UInt8.toNat_lt _) (UInt8.toNat_lt _) h
  have e : encodeRune v = l.take sz := by unfold encodeRune; rw [he, take_getD l sz hs.2.1 hs.2.2.1]
  exact ⟨hc, e, by rw [e, List.length_take]; omega⟩

/-- The text of characters. -/
def textL (rs : List Nat) : List UInt8 := rs.flatMap fun (v : Nat) => encodeRune (v : Int)
theorem textL_cons (v : Nat) (rs : List Nat) : textL (v :: rs) = encodeRune v ++ textL rs := by simp [textL]
theorem textL_append (a b : List Nat) : textL (a ++ b) = textL a ++ textL b := by simp [textL]
theorem textL_le (rs : List Nat) : rs.length ≤ (textL rs).length ∧ (textL rs).length ≤ 4 * rs.length := by
  induction rs with
  | nil => simp [textL]
  | cons v r ih =>
    have := encodeRuneZ_length v
    rw [textL_cons, List.length_append, enc_len, List.length_cons]
    omega
theorem enc_ne (v : Int) : encodeRune v ≠ [] := fun h => by
  have := encodeRuneZ_length v
  have h2 := enc_len v
  rw [h] at h2
  simp at h2
  omega

theorem runes_back : ∀ (n : Nat) (l : List UInt8), l.length ≤ n → ∀ rs, runesD l = some rs → textL rs = l ∧ ∀ v ∈ rs, Ch v
  | _, [], _, rs, h => by rw [runesD_nil] at h; obtain rfl := Option.some.inj h; simp [textL]
  | 0, _ :: _, hn, _, _ => by simp at hn
  | n + 1, a :: r, hn, rs, h => by
    have hne : a :: r ≠ [] := by simp
    cases hS : stepD (a :: r) with
    | none => rw [runesD_bad hne hS] at h; cases h
    | some p =>
      obtain ⟨v, sz⟩ := p
      rw [runesD_ok hne hS] at h
      obtain ⟨rs', h1, rfl⟩ := Option.map_eq_some_iff.1 h
      have hs := stepD_some hS hne
      obtain ⟨hc, he, _⟩ := step_inv hne hS
      obtain ⟨i1, i2⟩ := runes_back n _ (by rw [List.length_drop]; simp at hn ⊢; omega) rs' h1
      refine ⟨?_, fun x hx => ?_⟩
      · rw [textL_cons, i1, he, List.take_append_drop]
      · rcases List.mem_cons.1 hx with rfl | hx
        · exact hc
        · exact i2 x hx
theorem runes_text {l : List UInt8} {rs : List Nat} (h : runesD l = some rs) : textL rs = l ∧ ∀ v ∈ rs, Ch v := runes_back _ l (Nat.le_refl _) rs h
theorem text_runes : ∀ rs : List Nat, (∀ v ∈ rs, Ch v) → runesD (textL rs) = some rs
  | [], _ => rfl
  | v :: r, h => by
    have hc := h v (by simp)
    have ih := text_runes r (fun x hx => h x (by simp [hx]))
    have hne : textL (v :: r) ≠ [] := by
      rw [textL_cons]
      intro e
      exact enc_ne v (List.append_eq_nil_iff.1 e).1
    rw [runesD_ok hne (by rw [textL_cons]; exact step_enc hc (textL r)), textL_cons, List.drop_left, ih]
    rfl
theorem runes_append {l l' : List UInt8} {a b : List Nat} (h : runesD l = some a) (h' : runesD l' = some b) : runesD (l ++ l') = some (a ++ b) := by
  obtain ⟨e, c⟩ := runes_text h
  obtain ⟨e', c'⟩ := runes_text h'
  rw [← e, ← e', ← textL_append]
  exact text_runes _ (fun v hv => by rcases List.mem_append.1 hv with hv | hv; exact c v hv; exact c' v hv)
theorem runes_len {l : List UInt8} {rs : List Nat} (h : runesD l = some rs) : rs.length ≤ l.length := by
  have := (runes_text h).1
  have h2 := textL_le rs
  rw [this] at h2
  exact h2.1
theorem runes_valid (l : List UInt8) : (runesD l).isSome = validD l := runesD_valid _ l rfl
end Go.Proofs.YtdjegpmjhfbamaaDoor
