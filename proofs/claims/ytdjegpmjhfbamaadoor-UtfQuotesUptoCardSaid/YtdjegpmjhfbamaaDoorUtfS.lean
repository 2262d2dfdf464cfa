/-
  Plain: a text quoted, and a quoted text read.
-/
import Derived.Test.YtdjegpmjhfbamaaDoorUtfR
namespace Go.Proofs.YtdjegpmjhfbamaaDoor
open Go Go.Lib

def hexD (n : Nat) : UInt8 := if n < 10 then UInt8.ofNat (48 + n) else UInt8.ofNat (87 + n)
/-- The letter of a character that has one (as bytes behind the stroke). -/
def letterP (v : Nat) : Option UInt8 := if v = 34 then some 34 else if v = 92 then some 92 else if v = 8 then some 98 else if v = 12 then some 102 else if v = 10 then some 110 else if v = 13 then some 114 else if v = 9 then some 116 else none
/-- A character quoted. -/
def qr (v : Nat) : List UInt8 := match letterP v with
  | some c => [92, c]
  | none => if v < 32 ∨ v = 127 then [92, 117, 48, 48, hexD (v / 16), hexD (v % 16)] else encodeRune v
/-- A byte quoted. -/
def q1 (c : UInt8) : List UInt8 := match letterP c.toNat with
  | some c => [92, c]
  | none => if c.toNat < 32 ∨ c.toNat = 127 then [92, 117, 48, 48, hexD (c.toNat / 16), hexD (c.toNat % 16)] else [c]
def quoteP (l : List UInt8) : List UInt8 := 34 :: l.flatMap q1 ++ [34]
theorem letterP_lt {v : Nat} (h : 128 ≤ v) : letterP v = none := by
  unfold letterP
  rw [if_neg (by omega), if_neg (by omega), if_neg (by omega), if_neg (by omega), if_neg (by omega), if_neg (by omega), if_neg (by omega)]
theorem q1_high {c : UInt8} (h : 128 ≤ c.toNat) : q1 c = [c] := by
  unfold q1
  rw [letterP_lt h]
  simp only
  rw [if_neg (by omega)]
theorem enc_high {v : Nat} (hv : 128 ≤ v) : ∀ c ∈ encodeRune v, 128 ≤ c.toNat := by
  intro c hc
  unfold encodeRune at hc
  obtain ⟨x, hx, rfl⟩ := List.mem_map.1 hc
  have hb := encodeRuneZ_byte v x hx
  have hl : 128 ≤ x := by
    unfold encodeRuneZ at hx
    split at hx
    · omega
    split at hx
    · simp at hx; omega
    split at hx
    · simp at hx; omega
    split at hx
    · simp at hx; omega
    · simp at hx; omega
  have : x.toNat.toUInt8.toNat = x.toNat % 256 := by simp
  omega
theorem enc_ascii {v : Nat} (h : v < 128) : encodeRune v = [UInt8.ofNat v] := by
  unfold encodeRune
  rw [encodeRuneZ_one (by omega) (by omega)]
  rfl
theorem flat_id (l : List UInt8) (h : ∀ c ∈ l, q1 c = [c]) : l.flatMap q1 = l := by
  induction l with
  | nil => rfl
  | cons a r ih =>
    rw [List.flatMap_cons, h a (by simp), ih (fun c hc => h c (by simp [hc]))]
    rfl
theorem qr_enc (v : Nat) : qr v = (encodeRune v).flatMap q1 := by
  by_cases hv : v < 128
  · rw [enc_ascii hv]
    have hn : (UInt8.ofNat v).toNat = v := by simp; omega
    simp only [List.flatMap_cons, List.flatMap_nil, List.append_nil]
    unfold q1 qr
    rw [hn, enc_ascii hv]
  · rw [flat_id _ (fun c hc => q1_high (enc_high (by omega) c hc))]
    unfold qr
    rw [letterP_lt (by omega)]
    simp only
    rw [if_neg (by omega)]
theorem quote_text (rs : List Nat) : quoteP (textL rs) = 34 :: rs.flatMap qr ++ [34] := by
  unfold quoteP textL
  rw [List.flatMap_assoc]
  congr 2
  exact congrArg (List.flatMap · rs) (funext fun v => (qr_enc v).symm)
theorem qr_len (v : Nat) : 1 ≤ (qr v).length ∧ (qr v).length ≤ 6 := by
  unfold qr
  split
  · simp
  · split
    · simp
    · have := encodeRuneZ_length v
      rw [enc_len]; omega
theorem q1_len (c : UInt8) : 1 ≤ (q1 c).length ∧ (q1 c).length ≤ 6 := by
  unfold q1
  split
  · simp
  · split <;> simp
theorem qrs_len (rs : List Nat) : (rs.flatMap qr).length ≤ 6 * rs.length := by
  induction rs with
  | nil => simp
  | cons v r ih =>
    have := qr_len v
    rw [List.flatMap_cons, List.length_append, List.length_cons]
    omega
theorem q1s_len (l : List UInt8) : (l.flatMap q1).length ≤ 6 * l.length := by
  induction l with
  | nil => simp
  | cons v r ih =>
    have := q1_len v
    rw [List.flatMap_cons, List.length_append, List.length_cons]
    omega

/-- The character of a letter behind the stroke. -/
def backP (c : Nat) : Option Nat := if c = 34 ∨ c = 92 ∨ c = 47 then some c else if c = 98 then some 8 else if c = 102 then some 12 else if c = 110 then some 10 else if c = 114 then some 13 else if c = 116 then some 9 else none
def digP (c : Nat) : Option Nat := if 48 ≤ c ∧ c ≤ 57 then some (c - 48) else if 97 ≤ c ∧ c ≤ 102 then some (c - 87) else if 65 ≤ c ∧ c ≤ 70 then some (c - 55) else none
/-- The number of four digits by base 16. -/
def fourP : List UInt8 → Option Nat
  | a :: b :: c :: d :: _ => (digP a.toNat).bind fun a => (digP b.toNat).bind fun b => (digP c.toNat).bind fun c => (digP d.toNat).bind fun d => some (((a * 16 + b) * 16 + c) * 16 + d)
  | _ => none
/-- What stands next in a quoted text: -1: the end; 0: bytes, of so many read; else the error. -/
def partP (l : List UInt8) : Int × List UInt8 × Nat :=
  match l with
  | [] => (4, [], 0)
  | c :: r =>
    if c = 34 then (-1, [], 1)
    else if c ≠ 92 then
      if c.toNat < 32 then (4, [], 0) else match stepD l with
        | none => (11, [], 0)
        | some (_, sz) => (0, l.take sz, sz)
    else match r with
      | [] => (4, [], 0)
      | d :: q => match backP d.toNat with
        | some x => (0, [UInt8.ofNat x], 2)
        | none =>
          if d ≠ 117 then (4, [], 0) else match fourP q with
            | none => (4, [], 0)
            | some n =>
              if 55296 ≤ n ∧ n < 57344 then
                if n < 56320 ∧ (q.drop 4).take 2 = [92, 117] then match fourP (q.drop 6) with
                  | none => (11, [], 0)
                  | some m => if 56320 ≤ m ∧ m < 57344 then (0, encodeRune ((65536 + (n - 55296) * 1024 + (m - 56320) : Nat) : Int), 12) else (11, [], 0)
                else (11, [], 0)
              else (0, encodeRune (n : Int), 6)
def unqG : Nat → List UInt8 → List UInt8 → Int × List UInt8
  | 0, _, _ => (4, [])
  | n + 1, l, acc => match partP l with
    | (e, b, k) => if e = -1 then (if l.drop 1 = [] then (0, acc) else (4, [])) else if e = 0 then unqG n (l.drop k) (acc ++ b) else (e, [])
/-- A quoted text's text, or its first fault. -/
def unqP (l : List UInt8) : Int × List UInt8 := match l with
  | [] => (4, [])
  | c :: r => if c = 34 then unqG (r.length + 1) r [] else (4, [])

theorem back_letter {v : Nat} {c : UInt8} (h : letterP v = some c) : backP c.toNat = some v := by
  unfold letterP at h
  split at h
  · injection h with h; subst h; rename_i k; subst k; rfl
  split at h
  · injection h with h; subst h; rename_i k; subst k; rfl
  split at h
  · injection h with h; subst h; rename_i k; subst k; rfl
  split at h
  · injection h with h; subst h; rename_i k; subst k; rfl
  split at h
  · injection h with h; subst h; rename_i k; subst k; rfl
  split at h
  · injection h with h; subst h; rename_i k; subst k; rfl
  split at h
  · injection h with h; subst h; rename_i k; subst k; rfl
  · cases h
theorem dig_hex {n : Nat} (h : n < 16) : digP (hexD n).toNat = some n := by
  unfold hexD
  split
  · have : (UInt8.ofNat (48 + n)).toNat = 48 + n := by simp; omega
    rw [this, digP, if_pos (by omega)]
    congr 1; omega
  · have : (UInt8.ofNat (87 + n)).toNat = 87 + n := by simp; omega
    rw [this, digP, if_neg (by omega), if_pos (by omega)]
    congr 1; omega
theorem letter_lt {v : Nat} {c : UInt8} (h : letterP v = some c) : v < 128 := by
  rcases Nat.lt_or_ge v 128 with h1 | h1
  · exact h1
  · rw [letterP_lt h1] at h; cases h
/-- A quoted character is read back. -/
theorem part_qr {v : Nat} (hv : Ch v) (r : List UInt8) : partP (qr v ++ r) = (0, encodeRune v, (qr v).length) := by
  unfold qr
  cases hl : letterP v with
  | some c =>
    show partP (92 :: c :: r) = _
    unfold partP
    simp only
    rw [if_neg (by decide), if_neg (by decide)]
    simp only [back_letter hl]
    rw [enc_ascii (letter_lt hl)]
    rfl
  | none =>
    simp only
    by_cases hc : v < 32 ∨ v = 127
    · rw [if_pos hc]
      show partP (92 :: 117 :: 48 :: 48 :: hexD (v / 16) :: hexD (v % 16) :: r) = _
      have h4 : fourP (48 :: 48 :: hexD (v / 16) :: hexD (v % 16) :: r) = some v := by
        show ((digP (48 : UInt8).toNat).bind fun a => (digP (48 : UInt8).toNat).bind fun b => (digP (hexD (v / 16)).toNat).bind fun c => (digP (hexD (v % 16)).toNat).bind fun d => some (((a * 16 + b) * 16 + c) * 16 + d)) = _
        rw [dig_hex (show v / 16 < 16 by omega), dig_hex (show v % 16 < 16 by omega)]
        show some _ = some _
        congr 1
        show ((0 * 16 + 0) * 16 + v / 16) * 16 + v % 16 = v
        omega
      unfold partP
      simp only
      rw [if_neg (by decide), if_neg (by decide)]
      simp only [show backP (117 : UInt8).toNat = none from rfl, h4]
      rw [if_neg (by simp), if_neg (by omega)]
      rfl
    · rw [if_neg hc]
      have hne := enc_ne v
      have hst := step_enc hv r
      cases he : encodeRune v with
      | nil => exact absurd he hne
      | cons c q =>
        have hc0 : 32 ≤ c.toNat ∧ c ≠ 34 ∧ c ≠ 92 := by
          by_cases h128 : v < 128
          · rw [enc_ascii h128] at he
            injection he with he _
            subst he
            have : (UInt8.ofNat v).toNat = v := by simp; omega
            refine ⟨by omega, fun h => ?_, fun h => ?_⟩
            · have h2 := congrArg UInt8.toNat h
              rw [this] at h2
              have : v = 34 := h2
              subst this
              cases hl
            · have h2 := congrArg UInt8.toNat h
              rw [this] at h2
              have : v = 92 := h2
              subst this
              cases hl
          · have h8 := enc_high (v := v) (by omega) c (by rw [he]; simp)
            refine ⟨by omega, fun h => ?_, fun h => ?_⟩
            · subst h; exact absurd h8 (by decide)
            · subst h; exact absurd h8 (by decide)
        rw [he] at hst
        show partP (c :: (q ++ r)) = _
        unfold partP
        simp only
        rw [if_neg hc0.2.1, if_pos hc0.2.2, if_neg (by omega), show c :: (q ++ r) = c :: q ++ r from rfl, hst]
        simp
theorem unq_rs : ∀ (rs : List Nat) (n : Nat) (acc : List UInt8), (∀ v ∈ rs, Ch v) → rs.length < n → unqG n (rs.flatMap qr ++ [34]) acc = (0, acc ++ textL rs)
  | [], n + 1, acc, _, _ => by simp [unqG, partP, textL]
  | [], 0, _, _, h => by simp at h
  | v :: r, 0, _, _, h => by simp at h
  | v :: r, n + 1, acc, hc, hn => by
    rw [List.flatMap_cons, List.append_assoc, unqG, part_qr (hc v (by simp))]
    simp only
    rw [if_neg (by decide), if_pos trivial, List.drop_left, unq_rs r n _ (fun x hx => hc x (by simp [hx])) (by simp at hn; omega), textL_cons, List.append_assoc]
theorem flat_ge (rs : List Nat) : rs.length ≤ (rs.flatMap qr).length := by
  induction rs with
  | nil => simp
  | cons v r ih =>
    have := qr_len v
    rw [List.flatMap_cons, List.length_append, List.length_cons]
    omega
/-- Quoted and read, a text is the text. -/
theorem unq_quote {l : List UInt8} {rs : List Nat} (h : runesD l = some rs) : unqP (quoteP l) = (0, l) := by
  obtain ⟨e, hc⟩ := runes_text h
  rw [← e, quote_text]
  show (if (34 : UInt8) = 34 then unqG ((rs.flatMap qr ++ [34]).length + 1) (rs.flatMap qr ++ [34]) [] else (4, [])) = _
  rw [if_pos rfl, unq_rs rs _ [] hc (by have := flat_ge rs; rw [List.length_append]; omega)]
  rfl
theorem quote_inj {l l' : List UInt8} (h : validD l = true) (h' : validD l' = true) (e : quoteP l = quoteP l') : l = l' := by
  rw [← runes_valid] at h h'
  obtain ⟨rs, hr⟩ := Option.isSome_iff_exists.1 h
  obtain ⟨rs', hr'⟩ := Option.isSome_iff_exists.1 h'
  have h1 := unq_quote hr
  rw [e, unq_quote hr'] at h1
  exact (Prod.mk.inj h1).2.symm
end Go.Proofs.YtdjegpmjhfbamaaDoor
