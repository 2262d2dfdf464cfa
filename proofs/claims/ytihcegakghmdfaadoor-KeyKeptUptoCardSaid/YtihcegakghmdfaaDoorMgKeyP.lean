/-
  Plain: a value's key; bytes read as keys, strictly and loosely.
  Plain: keys are ordered as their values.
  Plain: the least bytes above all that begin with some bytes.
  Plain: what is read of a key is as long as its key; the first of some values that is not good; a value's nodes and size stay below its mass.
  Plain: reading a key piece by piece.
-/
import Derived.Test.YtihcegakghmdfaaDoorMgVal14
import Derived.Test.YtihcegakghmdfaaDoorMgPlain
import Derived.Test.YtihcegakghmdfaaDoorMgLaid
import Derived.Test.YtihcegakghmdfaaDoorMgRef6
namespace Go.Proofs.YtihcegakghmdfaaDoor

/-- A text within a key. -/
def escB (b : UInt8) : List UInt8 := if b = 0 then [0, 255] else [b]
def esc (l : List UInt8) : List UInt8 := l.flatMap escB ++ [0, 0]
/-- Eight bytes, the greatest first. -/
def be8 (m : Nat) : List UInt8 := [UInt8.ofNat (m / 72057594037927936 % 256), UInt8.ofNat (m / 281474976710656 % 256), UInt8.ofNat (m / 1099511627776 % 256), UInt8.ofNat (m / 4294967296 % 256), UInt8.ofNat (m / 16777216 % 256), UInt8.ofNat (m / 65536 % 256), UInt8.ofNat (m / 256 % 256), UInt8.ofNat (m % 256)]
def of8 : List UInt8 → Nat := fun l => l.foldl (fun a b => a * 256 + b.toNat) 0
mutual
/-- A value's key. -/
def PVal.key : PVal → List UInt8
  | .mk k n s l fn fv => UInt8.ofNat (10 * k % 256).toNat :: (if k = 2 then [UInt8.ofNat (n % 256).toNat] else if k = 3 then be8 (n + 9223372036854775808).toNat else if k = 4 then esc s.data.toList
      else if k = 5 then keyL l ++ [0] else if k = 6 then keyF fn fv ++ [0] else [])
def keyL : List PVal → List UInt8
  | [] => []
  | x :: r => 1 :: (x.key ++ keyL r)
def keyF : List ByteArray → List PVal → List UInt8
  | a :: ar, x :: r => 1 :: (esc a.data.toList ++ (x.key ++ keyF ar r))
  | _, _ => []
end
theorem keyL_append (a b : List PVal) : keyL (a ++ b) = keyL a ++ keyL b := by
  induction a with
  | nil => rfl
  | cons x r ih => simp [keyL, ih]
theorem keyL_succ {l : List PVal} {i : Nat} {x : PVal} (h : l[i]? = some x) : keyL (l.take (i + 1)) = keyL (l.take i) ++ (1 :: x.key) := by
  rw [take_succ_of h, keyL_append]; simp [keyL]
theorem keyF_succ : ∀ {fn : List ByteArray} {fv : List PVal} {i : Nat} {a : ByteArray} {x : PVal}, fn[i]? = some a → fv[i]? = some x →
    keyF (fn.take (i + 1)) (fv.take (i + 1)) = keyF (fn.take i) (fv.take i) ++ (1 :: (esc a.data.toList ++ x.key))
  | [], _, _, _, _, h, _ => by simp at h
  | _, [], _, _, _, _, h => by simp at h
  | b :: ar, y :: r, 0, a, x, h, h' => by
    have e1 : b = a := by simpa using h
    have e2 : y = x := by simpa using h'
    subst e1 e2
    simp [keyF]
  | b :: ar, y :: r, i + 1, a, x, h, h' => by
    have := keyF_succ (fn := ar) (fv := r) (i := i) (a := a) (x := x) (by simpa using h) (by simpa using h')
    simp only [List.take_succ_cons, keyF, this]
    simp
theorem keyL_take_le (l : List PVal) (j : Nat) : (keyL (l.take j)).length ≤ (keyL l).length := by
  conv => rhs; rw [← List.take_append_drop j l, keyL_append]
  rw [List.length_append]; omega
theorem keyF_take_le : ∀ (fn : List ByteArray) (fv : List PVal) (j : Nat), (keyF (fn.take j) (fv.take j)).length ≤ (keyF fn fv).length
  | _, _, 0 => by simp [keyF]
  | [], _, j + 1 => by simp [keyF]
  | _ :: _, [], j + 1 => by simp [keyF]
  | a :: ar, x :: r, j + 1 => by
    have := keyF_take_le ar r j
    simp only [List.take_succ_cons, keyF, List.length_append, List.length_cons]
    omega
theorem esc_len (l : List UInt8) : l.length + 2 ≤ (esc l).length ∧ (esc l).length ≤ 2 * l.length + 2 := by
  unfold esc
  rw [List.length_append]
  have : l.length ≤ (l.flatMap escB).length ∧ (l.flatMap escB).length ≤ 2 * l.length := by
    induction l with
    | nil => simp
    | cons a r ih =>
      rw [List.flatMap_cons, List.length_append, List.length_cons]
      have : 1 ≤ (escB a).length ∧ (escB a).length ≤ 2 := by unfold escB; split <;> simp
      omega
  have e : ([0, 0] : List UInt8).length = 2 := rfl
  omega
theorem keyL_len (l : List PVal) : l.length ≤ (keyL l).length := by
  induction l with
  | nil => simp
  | cons x t ih => simp only [keyL, List.length_cons, List.length_append]; omega
theorem key_le (V : PVal) : V.key.length + 1 ≤ 2 * V.mass := by
  induction V using PVal.ind with
  | h k n s l fn fv hl hf =>
    have e1 : ∀ l : List PVal, (∀ x ∈ l, x.key.length + 1 ≤ 2 * x.mass) → (keyL l).length ≤ 2 * massL l := by
      intro l
      induction l with
      | nil => intro _; simp [keyL]
      | cons y r ih =>
        intro h
        have := h y (by simp)
        have := ih (fun x hx => h x (by simp [hx]))
        simp only [keyL, massL, List.length_append, List.length_cons]
        omega
    have e2 : ∀ (fn : List ByteArray) (fv : List PVal), (∀ x ∈ fv, x.key.length + 1 ≤ 2 * x.mass) → (keyF fn fv).length ≤ 2 * massF fn + 2 * massL fv := by
      intro fn
      induction fn with
      | nil => intro fv _; simp [keyF]
      | cons a r ih =>
        intro fv h
        cases fv with
        | nil => simp [keyF]
        | cons y r' =>
          have h1 := h y (by simp)
          have h2 := ih r' (fun x hx => h x (by simp [hx]))
          have h3 := esc_len a.data.toList
          rw [show a.data.toList.length = a.size by simp] at h3
          simp only [keyF, massL, massF, List.length_append, List.length_cons]
          omega
    have h1 := e1 l hl
    have h2 := e2 fn fv hf
    have h3 := esc_len s.data.toList
    rw [show s.data.toList.length = s.size by simp] at h3
    simp only [PVal.key, PVal.mass, List.length_cons]
    split
    · simp; omega
    split
    · simp [be8]; omega
    split
    · omega
    split
    · rw [List.length_append]; simp; omega
    split
    · rw [List.length_append]; simp; omega
    · simp; omega

/-- A text to its end; st: read strictly. -/
def txtK (st : Bool) : List UInt8 → Option (List UInt8 × Nat)
  | [] => none
  | [_] => none
  | c :: d :: r => if c = 0 then (if d = 255 then (txtK st r).map fun p => (0 :: p.1, p.2 + 2) else if st = true ∧ d ≠ 0 then none else some ([], 2)) else (txtK st (d :: r)).map fun p => (c :: p.1, p.2 + 1)
def listK (st : Bool) (p : List UInt8 → Option (PVal × Nat)) : Nat → List UInt8 → Option (List PVal × Nat)
  | 0, _ => none
  | _ + 1, [] => none
  | f + 1, c :: r => if c = 0 then some ([], 1) else if st = true ∧ c ≠ 1 then none else match p r with
    | none => none
    | some (x, k) => match listK st p f (r.drop k) with
      | none => none
      | some (xs, j) => some (x :: xs, 1 + k + j)
def fieldsK (st : Bool) (p : List UInt8 → Option (PVal × Nat)) : Nat → List UInt8 → Option ((List ByteArray × List PVal) × Nat)
  | 0, _ => none
  | _ + 1, [] => none
  | f + 1, c :: r => if c = 0 then some (([], []), 1) else if st = true ∧ c ≠ 1 then none else match txtK st r with
    | none => none
    | some (t, i) => match p (r.drop i) with
      | none => none
      | some (x, k) => match fieldsK st p f (r.drop (i + k)) with
        | none => none
        | some ((fn, fv), j) => some ((⟨t.toArray⟩ :: fn, x :: fv), 1 + i + k + j)
def headK (st : Bool) (p : List UInt8 → Option (PVal × Nat)) : List UInt8 → Option (PVal × Nat)
  | [] => none
  | k :: r =>
    if k.toNat < 10 ∨ 69 < k.toNat ∨ (st = true ∧ k.toNat % 10 ≠ 0) then none
    else if k.toNat / 10 = 1 then some (.mk 1 0 ByteArray.empty [] [] [], 1)
    else if k.toNat / 10 = 2 then match r with
      | [] => none
      | d :: _ => some (.mk 2 d.toNat ByteArray.empty [] [] [], 2)
    else if k.toNat / 10 = 3 then if r.length < 8 then none else some (.mk 3 ((of8 (r.take 8) : Int) - 9223372036854775808) ByteArray.empty [] [] [], 9)
    else if k.toNat / 10 = 4 then match txtK st r with
      | none => none
      | some (t, c) => some (.mk 4 0 ⟨t.toArray⟩ [] [] [], 1 + c)
    else if k.toNat / 10 = 5 then match listK st p (r.length + 1) r with
      | none => none
      | some (xs, c) => some (.mk 5 0 ByteArray.empty xs [] [], 1 + c)
    else match fieldsK st p (r.length + 1) r with
      | none => none
      | some ((fn, fv), c) => some (.mk 6 0 ByteArray.empty [] fn fv, 1 + c)
/-- A value, of at most so many within one another. -/
def keyR (st : Bool) : Nat → List UInt8 → Option (PVal × Nat)
  | 0 => fun _ => none
  | m + 1 => headK st (keyR st m)

theorem txtK_esc (st : Bool) : ∀ (l r : List UInt8), txtK st (esc l ++ r) = some (l, (esc l).length)
  | [], r => by
    show txtK st (0 :: 0 :: r) = _
    rw [txtK, if_pos rfl, if_neg (by decide), if_neg (by simp)]
    rfl
  | c :: q, r => by
    have ih := txtK_esc st q r
    have e : esc (c :: q) = escB c ++ esc q := by unfold esc; rw [List.flatMap_cons, List.append_assoc]
    rw [e, List.append_assoc]
    by_cases hc : c = 0
    · subst hc
      show txtK st (0 :: 255 :: (esc q ++ r)) = _
      rw [txtK, if_pos rfl, if_pos rfl, ih, List.length_append]
      simp [escB]; omega
    · have eb : escB c = [c] := by unfold escB; rw [if_neg hc]
      have hne : ∃ d t, esc q ++ r = d :: t := by
        cases hq : esc q ++ r with
        | nil =>
          have h1 := congrArg List.length hq
          rw [List.length_append, List.length_nil] at h1
          have h2 := (esc_len q).1
          omega
        | cons d t => exact ⟨d, t, rfl⟩
      obtain ⟨d, t, hd⟩ := hne
      rw [eb]
      show txtK st (c :: (esc q ++ r)) = _
      rw [hd] at ih ⊢
      rw [txtK, if_neg hc, ih, List.length_append]
      simp; omega
theorem of8_be8 {m : Nat} (h : m < 18446744073709551616) : of8 (be8 m) = m := by
  unfold of8 be8
  have e : ∀ x : Nat, (UInt8.ofNat (x % 256)).toNat = x % 256 := fun x => by rw [UInt8.toNat_ofNat']; omega
  simp only [List.foldl_cons, List.foldl_nil, e]
  omega
theorem of8_lt {l : List UInt8} (h : l.length = 8) : of8 l < 18446744073709551616 := by
  match l, h with
  | [a, b, c, d, e, f, g, i], _ =>
    have := a.toNat_lt; have := b.toNat_lt; have := c.toNat_lt; have := d.toNat_lt; have := e.toNat_lt; have := f.toNat_lt; have := g.toNat_lt; have := i.toNat_lt
    simp only [of8, List.foldl_cons, List.foldl_nil]
    omega
theorem listK_ok (st : Bool) (p : List UInt8 → Option (PVal × Nat)) : ∀ (l : List PVal) (r : List UInt8) (f : Nat), (∀ x ∈ l, ∀ r, p (x.key ++ r) = some (x, x.key.length)) → l.length < f → listK st p f ((keyL l ++ [0]) ++ r) = some (l, (keyL l ++ [0]).length)
  | [], r, f + 1, _, _ => by
    show listK st p (f + 1) (0 :: r) = _
    rw [listK, if_pos rfl]
    rfl
  | [], r, 0, _, h => by simp at h
  | x :: q, r, 0, _, h => by simp at h
  | x :: q, r, f + 1, h, hf => by
    have hx := h x (by simp)
    have ih := listK_ok st p q r f (fun y hy => h y (by simp [hy])) (by simp at hf; omega)
    have e : (keyL (x :: q) ++ [0]) ++ r = 1 :: (x.key ++ ((keyL q ++ [0]) ++ r)) := by simp [keyL]
    rw [e, listK, if_neg (by decide), if_neg (by simp), hx]
    simp only
    rw [List.drop_left, ih]
    simp only [keyL, List.length_append, List.length_cons, List.length_nil]
    congr 2
    omega
theorem fieldsK_ok (st : Bool) (p : List UInt8 → Option (PVal × Nat)) : ∀ (fn : List ByteArray) (fv : List PVal) (r : List UInt8) (f : Nat), fn.length = fv.length → (∀ x ∈ fv, ∀ r, p (x.key ++ r) = some (x, x.key.length)) → fv.length < f →
    fieldsK st p f ((keyF fn fv ++ [0]) ++ r) = some ((fn, fv), (keyF fn fv ++ [0]).length)
  | [], [], r, f + 1, _, _, _ => by
    show fieldsK st p (f + 1) (0 :: r) = _
    rw [fieldsK, if_pos rfl]
    rfl
  | [], [], _, 0, _, _, h => by simp at h
  | [], _ :: _, _, _, h, _, _ => by simp at h
  | _ :: _, [], _, _, h, _, _ => by simp at h
  | a :: ar, x :: q, _, 0, _, _, h => by simp at h
  | a :: ar, x :: q, r, f + 1, hl, h, hf => by
    have hx := h x (by simp)
    have ih := fieldsK_ok st p ar q r f (by simpa using hl) (fun y hy => h y (by simp [hy])) (by simp at hf; omega)
    have e : (keyF (a :: ar) (x :: q) ++ [0]) ++ r = 1 :: (esc a.data.toList ++ (x.key ++ ((keyF ar q ++ [0]) ++ r))) := by simp [keyF]
    rw [e, fieldsK, if_neg (by decide), if_neg (by simp), txtK_esc]
    simp only
    rw [List.drop_left, hx]
    simp only
    rw [← List.drop_drop, List.drop_left, List.drop_left, ih]
    simp only [keyF, List.length_append, List.length_cons, List.length_nil]
    congr 2
    omega

set_option maxHeartbeats 1000000 in
/-- A key is read back, strictly or loosely. -/
theorem keyR_key (st : Bool) (V : PVal) : ∀ (m : Nat) (r : List UInt8), V.all formedB = true → V.fits → V.depth < m → keyR st m (V.key ++ r) = some (V, V.key.length) := by
  induction V using PVal.ind with
  | h k n s l fn fv hl hf =>
    intro m r h1 h4 hd
    have hA : (k = 5 → ∀ x ∈ l, x.all formedB = true) ∧ (k = 6 → ∀ x ∈ fv, x.all formedB = true) := by
      constructor
      · intro h5; subst h5
        simp only [PVal.all, allL_eq, Bool.and_eq_true, if_true, List.all_eq_true] at h1
        exact h1.2
      · intro h6; subst h6
        simp only [PVal.all, allL_eq, Bool.and_eq_true, List.all_eq_true, show ¬ (6 : Int) = 5 by omega, if_false, if_true] at h1
        exact h1.2
    simp only [PVal.all, Bool.and_eq_true, formedB, decide_eq_true_eq] at h1
    obtain ⟨⟨⟨⟨⟨⟨⟨hk, hb⟩, hn0⟩, hs4⟩, hl5⟩, hf6⟩, hris⟩, hA1⟩ := h1
    simp only [PVal.fits, fitsL_iff] at h4
    obtain ⟨hk64, hn64, hslim, hfnlim, hlen, _, _, hLf, hFf⟩ := h4
    obtain ⟨q, rfl⟩ : ∃ q, m = q + 1 := ⟨m - 1, by omega⟩
    have hkn : (UInt8.ofNat (10 * k % 256).toNat).toNat = 10 * k.toNat := by rw [ofNat_toNat (by omega)]; omega
    show headK st (keyR st q) _ = _
    rw [PVal.key, List.cons_append]
    simp only [headK, hkn]
    have hdv : 10 * k.toNat / 10 = k.toNat := by omega
    rw [if_neg (by omega), hdv]
    by_cases k1 : k = 1
    · subst k1
      have e1 := empty_of (hs4 (by omega))
      have e2 := hn0 (by omega) (by omega)
      have e3 := List.eq_nil_of_length_eq_zero (hl5 (by omega))
      have e4 := List.eq_nil_of_length_eq_zero (hf6 (by omega))
      subst e1 e2 e3 e4
      obtain rfl := List.eq_nil_of_length_eq_zero hlen
      rfl
    by_cases k2 : k = 2
    · subst k2
      have e1 := empty_of (hs4 (by omega))
      have e3 := List.eq_nil_of_length_eq_zero (hl5 (by omega))
      have e4 := List.eq_nil_of_length_eq_zero (hf6 (by omega))
      subst e1 e3 e4
      obtain rfl := List.eq_nil_of_length_eq_zero hlen
      rcases hb rfl with rfl | rfl <;> rfl
    by_cases k3 : k = 3
    · subst k3
      have e1 := empty_of (hs4 (by omega))
      have e3 := List.eq_nil_of_length_eq_zero (hl5 (by omega))
      have e4 := List.eq_nil_of_length_eq_zero (hf6 (by omega))
      subst e1 e3 e4
      obtain rfl := List.eq_nil_of_length_eq_zero hlen
      simp only [I64] at hn64
      have hm : (n + 9223372036854775808).toNat < 18446744073709551616 := by omega
      have hbl : (be8 (n + 9223372036854775808).toNat).length = 8 := rfl
      simp only [show (3 : Int) ≠ 2 by omega, if_false, if_true, show (3 : Int).toNat = 3 from rfl, show ¬ (3 : Nat) = 1 by omega, show ¬ (3 : Nat) = 2 by omega]
      rw [if_neg (by rw [List.length_append, hbl]; omega), ← hbl, List.take_left, of8_be8 hm]
      congr 2
      congr 1
      omega
    by_cases k4 : k = 4
    · subst k4
      have e2 := hn0 (by omega) (by omega)
      have e3 := List.eq_nil_of_length_eq_zero (hl5 (by omega))
      have e4 := List.eq_nil_of_length_eq_zero (hf6 (by omega))
      subst e2 e3 e4
      obtain rfl := List.eq_nil_of_length_eq_zero hlen
      simp only [show (4 : Int) ≠ 2 by omega, show (4 : Int) ≠ 3 by omega, if_false, if_true, show (4 : Int).toNat = 4 from rfl, show ¬ (4 : Nat) = 1 by omega, show ¬ (4 : Nat) = 2 by omega, show ¬ (4 : Nat) = 3 by omega]
      rw [txtK_esc]
      simp only [List.length_cons]
      congr 2
      omega
    by_cases k5 : k = 5
    · subst k5
      have e1 := empty_of (hs4 (by omega))
      have e2 := hn0 (by omega) (by omega)
      have e4 := List.eq_nil_of_length_eq_zero (hf6 (by omega))
      subst e1 e2 e4
      obtain rfl := List.eq_nil_of_length_eq_zero hlen
      simp only [PVal.depth, if_true] at hd
      have hkl : l.length ≤ (keyL l).length := keyL_len l
      have hL := listK_ok st (keyR st q) l r (((keyL l ++ [0]) ++ r).length + 1) (fun x hx r => hl x hx q r (hA.1 rfl x hx) (hLf x hx) (by have := depthL_mem hx; omega)) (by simp; omega)
      simp only [show (5 : Int) ≠ 2 by omega, show (5 : Int) ≠ 3 by omega, show (5 : Int) ≠ 4 by omega, if_false, if_true, show (5 : Int).toNat = 5 from rfl, show ¬ (5 : Nat) = 1 by omega, show ¬ (5 : Nat) = 2 by omega, show ¬ (5 : Nat) = 3 by omega, show ¬ (5 : Nat) = 4 by omega]
      rw [hL]
      simp only [List.length_cons]
      congr 2
      omega
    · obtain rfl : k = 6 := by omega
      have e1 := empty_of (hs4 (by omega))
      have e2 := hn0 (by omega) (by omega)
      have e3 := List.eq_nil_of_length_eq_zero (hl5 (by omega))
      subst e1 e2 e3
      simp only [PVal.depth, show (6 : Int) ≠ 5 by omega, if_false, if_true] at hd
      have hkl : ∀ (fn : List ByteArray) (fv : List PVal), fn.length = fv.length → fv.length ≤ (keyF fn fv).length := by
        intro fn
        induction fn with
        | nil => intro fv h; cases fv with
          | nil => simp
          | cons _ _ => simp at h
        | cons a t ih => intro fv h; cases fv with
          | nil => simp at h
          | cons x u =>
            have := ih u (by simpa using h)
            simp only [keyF, List.length_cons, List.length_append]; omega
      have hkl' := hkl fn fv hlen
      have hF := fieldsK_ok st (keyR st q) fn fv r (((keyF fn fv ++ [0]) ++ r).length + 1) hlen (fun x hx r => hf x hx q r (hA.2 rfl x hx) (hFf x hx) (by have := depthL_mem hx; omega)) (by simp; omega)
      simp only [show (6 : Int) ≠ 2 by omega, show (6 : Int) ≠ 3 by omega, show (6 : Int) ≠ 4 by omega, show (6 : Int) ≠ 5 by omega, if_false, if_true, show (6 : Int).toNat = 6 from rfl, show ¬ (6 : Nat) = 1 by omega, show ¬ (6 : Nat) = 2 by omega, show ¬ (6 : Nat) = 3 by omega, show ¬ (6 : Nat) = 4 by omega, show ¬ (6 : Nat) = 5 by omega]
      rw [hF]
      simp only [List.length_cons]
      congr 2
      omega

/-- What is read is bounded by its bytes. -/
theorem txtK_le (st : Bool) : ∀ (l t : List UInt8) (c : Nat), txtK st l = some (t, c) → t.length + 2 ≤ c ∧ c ≤ l.length
  | [], _, _, h => by cases h
  | [_], _, _, h => by cases h
  | a :: d :: r, t, c, h => by
    rw [txtK] at h
    split at h
    · split at h
      · obtain ⟨p, hp, he⟩ := Option.map_eq_some_iff.1 h
        have := txtK_le st r p.1 p.2 hp
        injection he with e1 e2
        subst e1 e2
        simp only [List.length_cons]; omega
      · split at h
        · cases h
        · injection h with h
          injection h with e1 e2
          subst e1 e2
          simp
    · obtain ⟨p, hp, he⟩ := Option.map_eq_some_iff.1 h
      have := txtK_le st (d :: r) p.1 p.2 hp
      injection he with e1 e2
      subst e1 e2
      simp only [List.length_cons] at this ⊢; omega
theorem listK_le {st : Bool} {p : List UInt8 → Option (PVal × Nat)} (hp : ∀ l x c, p l = some (x, c) → x.mass ≤ 32 * c ∧ c ≤ l.length ∧ 1 ≤ c) : ∀ (f : Nat) (l : List UInt8) (xs : List PVal) (c : Nat), listK st p f l = some (xs, c) → massL xs + 1 ≤ 32 * c ∧ c ≤ l.length ∧ 1 ≤ c ∧ xs.length < c
  | 0, _, _, _, h => by cases h
  | _ + 1, [], _, _, h => by cases h
  | f + 1, a :: r, xs, c, h => by
    rw [listK] at h
    split at h
    · injection h with h
      injection h with e1 e2
      subst e1 e2
      simp [massL]
    split at h
    · cases h
    split at h
    · cases h
    rename_i x k hx
    split at h
    · cases h
    rename_i ys j hy
    injection h with h
    injection h with e1 e2
    subst e1 e2
    have h1 := hp _ _ _ hx
    have h2 := listK_le hp f _ _ _ hy
    rw [List.length_drop] at h2
    simp only [massL, List.length_cons]; omega
theorem fieldsK_le {st : Bool} {p : List UInt8 → Option (PVal × Nat)} (hp : ∀ l x c, p l = some (x, c) → x.mass ≤ 32 * c ∧ c ≤ l.length ∧ 1 ≤ c) : ∀ (f : Nat) (l : List UInt8) (fn : List ByteArray) (fv : List PVal) (c : Nat), fieldsK st p f l = some ((fn, fv), c) → massF fn + massL fv + 1 ≤ 32 * c ∧ c ≤ l.length ∧ 1 ≤ c ∧ fv.length < c ∧ fn.length = fv.length
  | 0, _, _, _, _, h => by cases h
  | _ + 1, [], _, _, _, h => by cases h
  | f + 1, a :: r, fn, fv, c, h => by
    rw [fieldsK] at h
    split at h
    · injection h with h
      injection h with e1 e2
      injection e1 with e1 e3
      subst e1 e2 e3
      simp [massF, massL]
    split at h
    · cases h
    split at h
    · cases h
    rename_i t i ht
    split at h
    · cases h
    rename_i x k hx
    split at h
    · cases h
    rename_i gn gv j hy
    injection h with h
    injection h with e1 e2
    injection e1 with e1 e3
    subst e1 e2 e3
    have h0 := txtK_le st _ _ _ ht
    have h1 := hp _ _ _ hx
    have h2 := fieldsK_le hp f _ _ _ _ hy
    rw [List.length_drop] at h1 h2
    have hsz : (⟨t.toArray⟩ : ByteArray).size = t.length := by simp [ByteArray.size]
    simp only [massL, massF, hsz, List.length_cons]; omega
theorem keyR_le (st : Bool) : ∀ (m : Nat) (l : List UInt8) (V : PVal) (c : Nat), keyR st m l = some (V, c) → V.mass ≤ 32 * c ∧ c ≤ l.length ∧ 1 ≤ c
  | 0, _, _, _, h => by cases h
  | m + 1, [], _, _, h => by cases h
  | m + 1, k :: r, V, c, h => by
    have hp := keyR_le st m
    simp only [keyR, headK] at h
    split at h
    · cases h
    split at h
    · injection h with h; injection h with e1 e2; subst e1 e2
      simp [PVal.mass, massL, massF]
    split at h
    · split at h
      · cases h
      injection h with h; injection h with e1 e2; subst e1 e2
      simp [PVal.mass, massL, massF]
    split at h
    · split at h
      · cases h
      injection h with h; injection h with e1 e2; subst e1 e2
      simp [PVal.mass, massL, massF]; omega
    split at h
    · split at h
      · cases h
      rename_i t i ht
      injection h with h; injection h with e1 e2; subst e1 e2
      have h0 := txtK_le st _ _ _ ht
      have hsz : (⟨t.toArray⟩ : ByteArray).size = t.length := by simp [ByteArray.size]
      simp only [PVal.mass, massL, massF, hsz, List.length_cons]; omega
    split at h
    · split at h
      · cases h
      rename_i xs i hx
      injection h with h; injection h with e1 e2; subst e1 e2
      have h0 := listK_le hp _ _ _ _ hx
      have hsz : ByteArray.empty.size = 0 := rfl
      simp only [PVal.mass, massL, massF, hsz, List.length_cons]; omega
    · split at h
      · cases h
      rename_i fn fv i hx
      injection h with h; injection h with e1 e2; subst e1 e2
      have h0 := fieldsK_le hp _ _ _ _ _ hx
      have hsz : ByteArray.empty.size = 0 := rfl
      simp only [PVal.mass, massL, hsz, List.length_cons]; omega

theorem listK_fits {st : Bool} {p : List UInt8 → Option (PVal × Nat)} (hp : ∀ l x c, l.length ≤ 140737488355328 → p l = some (x, c) → x.fits) : ∀ (f : Nat) (l : List UInt8) (xs : List PVal) (c : Nat), l.length ≤ 140737488355328 → listK st p f l = some (xs, c) → ∀ x ∈ xs, x.fits
  | 0, _, _, _, _, h => by cases h
  | _ + 1, [], _, _, _, h => by cases h
  | f + 1, a :: r, xs, c, hl, h => by
    rw [listK] at h
    split at h
    · injection h with h
      injection h with e1 e2
      subst e1 e2
      simp
    split at h
    · cases h
    split at h
    · cases h
    rename_i x k hx
    split at h
    · cases h
    rename_i ys j hy
    injection h with h
    injection h with e1 e2
    subst e1 e2
    intro z hz
    simp only [List.length_cons] at hl
    rcases List.mem_cons.1 hz with rfl | hz
    · exact hp _ _ _ (by omega) hx
    · exact listK_fits hp f _ _ _ (by rw [List.length_drop]; omega) hy z hz
theorem fieldsK_fits {st : Bool} {p : List UInt8 → Option (PVal × Nat)} (hp : ∀ l x c, l.length ≤ 140737488355328 → p l = some (x, c) → x.fits) : ∀ (f : Nat) (l : List UInt8) (fn : List ByteArray) (fv : List PVal) (c : Nat), l.length ≤ 140737488355328 → fieldsK st p f l = some ((fn, fv), c) → (∀ x ∈ fv, x.fits) ∧ (∀ a ∈ fn, Lim a.size)
  | 0, _, _, _, _, _, h => by cases h
  | _ + 1, [], _, _, _, _, h => by cases h
  | f + 1, a :: r, fn, fv, c, hl, h => by
    rw [fieldsK] at h
    split at h
    · injection h with h
      injection h with e1 e2
      injection e1 with e1 e3
      subst e1 e2 e3
      simp
    split at h
    · cases h
    split at h
    · cases h
    rename_i t i ht
    split at h
    · cases h
    rename_i x k hx
    split at h
    · cases h
    rename_i gn gv j hy
    injection h with h
    injection h with e1 e2
    injection e1 with e1 e3
    subst e1 e2 e3
    simp only [List.length_cons] at hl
    have h0 := txtK_le st _ _ _ ht
    have hsz : (⟨t.toArray⟩ : ByteArray).size = t.length := by simp [ByteArray.size]
    obtain ⟨i1, i2⟩ := fieldsK_fits hp f _ _ _ _ (by rw [List.length_drop]; omega) hy
    constructor
    · intro z hz
      rcases List.mem_cons.1 hz with rfl | hz
      · exact hp _ _ _ (by rw [List.length_drop]; omega) hx
      · exact i1 z hz
    · intro z hz
      rcases List.mem_cons.1 hz with rfl | hz
      · unfold Lim; rw [hsz]; omega
      · exact i2 z hz
theorem keyR_fits (st : Bool) : ∀ (m : Nat) (l : List UInt8) (V : PVal) (c : Nat), l.length ≤ 140737488355328 → keyR st m l = some (V, c) → V.fits
  | 0, _, _, _, _, h => by cases h
  | m + 1, [], _, _, _, h => by cases h
  | m + 1, k :: r, V, c, hl, h => by
    have hp := keyR_fits st m
    have hpl := keyR_le st m
    have hsz0 : ByteArray.empty.size = 0 := rfl
    simp only [List.length_cons] at hl
    simp only [keyR, headK] at h
    split at h
    · cases h
    split at h
    · injection h with h; injection h with e1 e2; subst e1 e2
      simp [PVal.fits, fitsL, I64, Lim]
    split at h
    · split at h
      · cases h
      rename_i d q
      injection h with h; injection h with e1 e2; subst e1 e2
      have := d.toNat_lt
      simp only [PVal.fits, fitsL, I64, Lim, hsz0]
      simp; omega
    split at h
    · split at h
      · cases h
      rename_i h8
      injection h with h; injection h with e1 e2; subst e1 e2
      have := of8_lt (l := r.take 8) (by rw [List.length_take]; omega)
      simp only [PVal.fits, fitsL, I64, Lim, hsz0]
      simp; omega
    split at h
    · split at h
      · cases h
      rename_i t i ht
      injection h with h; injection h with e1 e2; subst e1 e2
      have h0 := txtK_le st _ _ _ ht
      have hsz : (⟨t.toArray⟩ : ByteArray).size = t.length := by simp [ByteArray.size]
      simp only [PVal.fits, fitsL, I64, Lim, hsz]
      simp; omega
    split at h
    · split at h
      · cases h
      rename_i xs i hx
      injection h with h; injection h with e1 e2; subst e1 e2
      have h0 := listK_le hpl _ _ _ _ hx
      have h1 := (fitsL_iff xs).2 (listK_fits hp _ _ _ _ (by omega) hx)
      simp only [PVal.fits, I64, Lim, hsz0]
      simp [h1, fitsL]; omega
    · split at h
      · cases h
      rename_i fn fv i hx
      injection h with h; injection h with e1 e2; subst e1 e2
      have h0 := fieldsK_le hpl _ _ _ _ _ hx
      obtain ⟨i1, i2⟩ := fieldsK_fits hp _ _ _ _ _ (by omega) hx
      have h1 := (fitsL_iff fv).2 i1
      simp only [Lim] at i2
      simp only [PVal.fits, I64, Lim, hsz0]
      simp [h1, fitsL]
      exact ⟨i2, by omega, by omega⟩

/-- Values' keys one behind the other. -/
def keysP (l : List PVal) : List UInt8 := l.flatMap PVal.key
/-- So many values one behind the other, as the program reads them. -/
def seqK : Nat → List UInt8 → Option (List PVal × Nat)
  | 0, _ => some ([], 0)
  | n + 1, l => match keyR false 9 l with
    | none => none
    | some (x, k) => match seqK n (l.drop k) with
      | none => none
      | some (xs, j) => some (x :: xs, k + j)
def splitP (l : List UInt8) (n : Nat) : Option (List PVal) := match seqK n l with
  | none => none
  | some (xs, _) => if xs.all (fun x => x.good == 0) = true ∧ keysP xs = l then some xs else none
/-- The same, as the reference reads them. -/
def splitR : Nat → List UInt8 → Option (List PVal)
  | 0, l => if l = [] then some [] else none
  | n + 1, l => match keyR true 10 l with
    | none => none
    | some (x, k) => if x.good ≠ 0 ∨ x.key ≠ l.take k then none else (splitR n (l.drop k)).map (x :: ·)
theorem good_form {V : PVal} (h : V.good = 0) : V.all formedB = true ∧ V.all spelledB = true ∧ V.all fewB = true ∧ V.depth ≤ 8 ∧ V.size ≤ 2048 := by
  unfold PVal.good at h
  split at h
  · cases h
  split at h
  · cases h
  split at h
  · cases h
  split at h
  · cases h
  split at h
  · cases h
  rename_i h1 h2 h3 h4 h5
  exact ⟨by simpa using h1, by simpa using h2, by simpa using h3, by omega, by omega⟩
theorem seqK_ok : ∀ (xs : List PVal) (r : List UInt8), (∀ x ∈ xs, x.good = 0 ∧ x.fits) → seqK xs.length (keysP xs ++ r) = some (xs, (keysP xs).length)
  | [], _, _ => rfl
  | x :: q, r, h => by
    obtain ⟨hg, hf⟩ := h x (by simp)
    have hgf := good_form hg
    have ih := seqK_ok q r (fun y hy => h y (by simp [hy]))
    have e : keysP (x :: q) ++ r = x.key ++ (keysP q ++ r) := by simp [keysP]
    rw [List.length_cons, seqK, e, keyR_key false x 9 _ hgf.1 hf (by omega)]
    simp only
    rw [List.drop_left, ih]
    simp [keysP]
theorem splitR_ok : ∀ (xs : List PVal), (∀ x ∈ xs, x.good = 0 ∧ x.fits) → splitR xs.length (keysP xs) = some xs
  | [], _ => rfl
  | x :: q, h => by
    obtain ⟨hg, hf⟩ := h x (by simp)
    have hgf := good_form hg
    have ih := splitR_ok q (fun y hy => h y (by simp [hy]))
    have e : keysP (x :: q) = x.key ++ keysP q := by simp [keysP]
    rw [List.length_cons, splitR, e, keyR_key true x 10 _ hgf.1 hf (by omega)]
    simp only
    rw [List.take_left, if_neg (by simp [hg]), List.drop_left, ih]
    rfl
theorem splitR_is : ∀ (n : Nat) (l : List UInt8) (xs : List PVal), splitR n l = some xs → xs.length = n ∧ (∀ x ∈ xs, x.good = 0) ∧ keysP xs = l
  | 0, l, xs, h => by
    rw [splitR] at h
    split at h
    · rename_i hl
      injection h with h
      subst h hl
      exact ⟨rfl, by simp, rfl⟩
    · cases h
  | n + 1, l, xs, h => by
    rw [splitR] at h
    split at h
    · cases h
    rename_i x k hx
    split at h
    · cases h
    rename_i hc
    obtain ⟨ys, hy, rfl⟩ := Option.map_eq_some_iff.1 h
    obtain ⟨a1, a2, a3⟩ := splitR_is n _ _ hy
    have hx2 : x.key = l.take k := by
      by_cases e : x.key = l.take k
      · exact e
      · exact absurd (.inr e) hc
    refine ⟨by simp [a1], fun z hz => ?_, ?_⟩
    · rcases List.mem_cons.1 hz with rfl | hz
      · by_cases e : z.good = 0
        · exact e
        · exact absurd (.inl e) hc
      · exact a2 z hz
    · have e : keysP (x :: ys) = x.key ++ keysP ys := by simp [keysP]
      rw [e, a3, hx2, List.take_append_drop]
theorem seqK_len : ∀ (n : Nat) (l : List UInt8) (xs : List PVal) (c : Nat), seqK n l = some (xs, c) → xs.length = n ∧ c ≤ l.length ∧ n ≤ c
  | 0, l, xs, c, h => by
    injection h with h
    injection h with e1 e2
    subst e1 e2
    simp
  | n + 1, l, xs, c, h => by
    rw [seqK] at h
    split at h
    · cases h
    rename_i x k hx
    split at h
    · cases h
    rename_i ys j hy
    injection h with h
    injection h with e1 e2
    subst e1 e2
    have h1 := keyR_le false 9 _ _ _ hx
    have h2 := seqK_len n _ _ _ hy
    rw [List.length_drop] at h2
    simp only [List.length_cons]; omega
theorem seqK_fits : ∀ (n : Nat) (l : List UInt8) (xs : List PVal) (c : Nat), l.length ≤ 140737488355328 → seqK n l = some (xs, c) → (∀ x ∈ xs, x.fits) ∧ massL xs ≤ 32 * c
  | 0, l, xs, c, _, h => by
    injection h with h
    injection h with e1 e2
    subst e1 e2
    simp [massL]
  | n + 1, l, xs, c, hl, h => by
    rw [seqK] at h
    split at h
    · cases h
    rename_i x k hx
    split at h
    · cases h
    rename_i ys j hy
    injection h with h
    injection h with e1 e2
    subst e1 e2
    have h1 := keyR_le false 9 _ _ _ hx
    obtain ⟨h2, h3⟩ := seqK_fits n _ _ _ (by rw [List.length_drop]; omega) hy
    refine ⟨fun z hz => ?_, by simp only [massL]; omega⟩
    rcases List.mem_cons.1 hz with rfl | hz
    · exact keyR_fits false 9 _ _ _ hl hx
    · exact h2 z hz
theorem splitR_fits : ∀ (n : Nat) (l : List UInt8) (xs : List PVal), l.length ≤ 140737488355328 → splitR n l = some xs → ∀ x ∈ xs, x.fits
  | 0, l, xs, _, h => by
    rw [splitR] at h
    split at h
    · injection h with h
      subst h
      simp
    · cases h
  | n + 1, l, xs, hl, h => by
    rw [splitR] at h
    split at h
    · cases h
    rename_i x k hx
    split at h
    · cases h
    obtain ⟨ys, hy, rfl⟩ := Option.map_eq_some_iff.1 h
    intro z hz
    rcases List.mem_cons.1 hz with rfl | hz
    · exact keyR_fits true 10 _ _ _ hl hx
    · exact splitR_fits n _ _ (by rw [List.length_drop]; omega) hy z hz
/-- The two agree. -/
theorem split_same (l : List UInt8) (n : Nat) (hl : l.length ≤ 140737488355328) : splitP l n = splitR n l := by
  have hf : ∀ xs c, seqK n l = some (xs, c) → ∀ x ∈ xs, x.fits := fun xs c h => (seqK_fits n l xs c hl h).1
  have hf' := fun xs h => splitR_fits n l xs hl h
  cases hR : splitR n l with
  | some xs =>
    obtain ⟨a1, a2, a3⟩ := splitR_is n l xs hR
    have hs := seqK_ok xs [] (fun x hx => ⟨a2 x hx, hf' xs hR x hx⟩)
    rw [List.append_nil, a1, a3] at hs
    unfold splitP
    rw [hs]
    simp only
    rw [if_pos ⟨List.all_eq_true.2 (fun x hx => by simp [a2 x hx]), a3⟩]
  | none =>
    unfold splitP
    cases hS : seqK n l with
    | none => rfl
    | some p =>
      obtain ⟨xs, c⟩ := p
      simp only
      split
      · rename_i hc
        have hg : ∀ x ∈ xs, x.good = 0 := fun x hx => by simpa using List.all_eq_true.1 hc.1 x hx
        have := splitR_ok xs (fun x hx => ⟨hg x hx, hf xs c hS x hx⟩)
        rw [hc.2, (seqK_len n l xs c hS).1, hR] at this
        cases this
      · rfl
end Go.Proofs.YtihcegakghmdfaaDoor

namespace Go.Proofs.YtihcegakghmdfaaDoor

/-- The order of bytes. -/
abbrev cb (a b : List UInt8) : Int := Lib.compareBytes a b
theorem cb_cons (x y : UInt8) (a b : List UInt8) : cb (x :: a) (y :: b) = if x < y then -1 else if y < x then 1 else cb a b := rfl
theorem cb_same (x : UInt8) (a b : List UInt8) : cb (x :: a) (x :: b) = cb a b := by rw [cb_cons]; simp [UInt8.lt_irrefl]
theorem cb_lt {x y : UInt8} (h : x < y) (a b : List UInt8) : cb (x :: a) (y :: b) = -1 := by rw [cb_cons, if_pos h]
theorem cb_gt {x y : UInt8} (h : y < x) (a b : List UInt8) : cb (x :: a) (y :: b) = 1 := by rw [cb_cons, if_neg (fun k => UInt8.lt_irrefl _ (UInt8.lt_trans h k)), if_pos h]
theorem cb_append (x a b : List UInt8) : cb (x ++ a) (x ++ b) = cb a b := by
  induction x with
  | nil => rfl
  | cons c r ih => rw [List.cons_append, List.cons_append, cb_same, ih]
theorem cb_esc : ∀ (l l' r r' : List UInt8), cb (esc l ++ r) (esc l' ++ r') = lex (cb l l') (cb r r')
  | [], [], r, r' => by
    show cb (0 :: 0 :: r) (0 :: 0 :: r') = lex 0 _
    rw [cb_same, cb_same, lex_zero_left]
  | [], c :: t, r, r' => by
    have e : esc (c :: t) ++ r' = escB c ++ (esc t ++ r') := by unfold esc; simp
    rw [e]
    show cb (0 :: 0 :: r) _ = lex (-1) _
    rw [lex_nz (by decide)]
    unfold escB
    split
    · exact cb_same _ _ _ |>.trans (cb_lt (by decide) _ _)
    · rename_i h
      exact cb_lt (by rw [UInt8.lt_iff_toNat_lt]; have : c.toNat ≠ 0 := fun k => h (UInt8.toNat_inj.1 k); show 0 < c.toNat; omega) _ _
  | c :: t, [], r, r' => by
    have e : esc (c :: t) ++ r = escB c ++ (esc t ++ r) := by unfold esc; simp
    rw [e]
    show cb _ (0 :: 0 :: r') = lex 1 _
    rw [lex_nz (by decide)]
    unfold escB
    split
    · exact cb_same _ _ _ |>.trans (cb_gt (by decide) _ _)
    · rename_i h
      exact cb_gt (by rw [UInt8.lt_iff_toNat_lt]; have : c.toNat ≠ 0 := fun k => h (UInt8.toNat_inj.1 k); show 0 < c.toNat; omega) _ _
  | c :: t, d :: u, r, r' => by
    have ih := cb_esc t u r r'
    have e : esc (c :: t) ++ r = escB c ++ (esc t ++ r) := by unfold esc; simp
    have e' : esc (d :: u) ++ r' = escB d ++ (esc u ++ r') := by unfold esc; simp
    rw [e, e']
    by_cases hcd : c = d
    · subst hcd
      rw [cb_append, ih, cb_same]
    · have hl : cb (c :: t) (d :: u) = if c < d then -1 else 1 := by
        rw [cb_cons]
        by_cases h1 : c < d
        · rw [if_pos h1, if_pos h1]
        · have h2 : d < c := by
            rw [UInt8.lt_iff_toNat_lt] at h1 ⊢
            have : c.toNat ≠ d.toNat := fun k => hcd (UInt8.toNat_inj.1 k)
            omega
          rw [if_neg h1, if_pos h2, if_neg h1]
      rw [hl]
      have hne : (if c < d then (-1 : Int) else 1) ≠ 0 := by split <;> decide
      rw [lex_nz hne]
      have hd : ∀ x y : List UInt8, cb (escB c ++ x) (escB d ++ y) = if c < d then -1 else 1 := by
        intro x y
        have key : ∃ p q, escB c ++ x = c :: p ∧ escB d ++ y = d :: q := by
          unfold escB
          split <;> split
          · rename_i h1 h2; exact ⟨_, _, by rw [h1]; rfl, by rw [h2]; rfl⟩
          · rename_i h1 h2; exact ⟨_, _, by rw [h1]; rfl, rfl⟩
          · rename_i h1 h2; exact ⟨_, _, rfl, by rw [h2]; rfl⟩
          · exact ⟨_, _, rfl, rfl⟩
        obtain ⟨p, q, h1, h2⟩ := key
        rw [h1, h2, cb_cons]
        by_cases h1 : c < d
        · rw [if_pos h1, if_pos h1]
        · have h2 : d < c := by
            rw [UInt8.lt_iff_toNat_lt] at h1 ⊢
            have : c.toNat ≠ d.toNat := fun k => hcd (UInt8.toNat_inj.1 k)
            omega
          rw [if_neg h1, if_pos h2, if_neg h1]
      exact hd _ _
theorem cb_byte {a b : Nat} (ha : a < 256) (hb : b < 256) (r r' : List UInt8) : cb (UInt8.ofNat a :: r) (UInt8.ofNat b :: r') = lex (icmp a b) (cb r r') := by
  have e1 : (UInt8.ofNat a < UInt8.ofNat b) ↔ a < b := by rw [UInt8.lt_iff_toNat_lt, ofNat_toNat ha, ofNat_toNat hb]
  have e2 : (UInt8.ofNat b < UInt8.ofNat a) ↔ b < a := by rw [UInt8.lt_iff_toNat_lt, ofNat_toNat ha, ofNat_toNat hb]
  rw [cb_cons]
  unfold icmp
  by_cases h1 : a < b
  · rw [if_pos (e1.2 h1), if_pos (by omega), lex_nz (by decide)]
  · rw [if_neg (fun h => h1 (e1.1 h))]
    by_cases h2 : b < a
    · rw [if_pos (e2.2 h2), if_neg (by omega), if_pos (by omega), lex_nz (by decide)]
    · rw [if_neg (fun h => h2 (e2.1 h)), if_neg (by omega), if_neg (by omega), lex_zero_left]
theorem icmp_split {a b q : Nat} (hq : 0 < q) : icmp (a : Int) b = lex (icmp ((a / q : Nat) : Int) ((b / q : Nat) : Int)) (icmp ((a % q : Nat) : Int) ((b % q : Nat) : Int)) := by
  have ea := Nat.div_add_mod a q
  have eb := Nat.div_add_mod b q
  have ha := Nat.mod_lt a hq
  have hb := Nat.mod_lt b hq
  generalize a / q = x at *
  generalize b / q = y at *
  generalize a % q = u at *
  generalize b % q = v at *
  by_cases hxy : x = y
  · subst hxy
    have e : icmp ((x : Nat) : Int) (x : Nat) = 0 := by unfold icmp; rw [if_neg (by omega), if_neg (by omega)]
    rw [e, lex_zero_left]
    unfold icmp
    repeat' split
    all_goals omega
  · rcases Nat.lt_or_ge x y with h | h
    · have h2 : q * (x + 1) ≤ q * y := Nat.mul_le_mul_left q h
      rw [Nat.mul_succ] at h2
      have e : icmp ((x : Nat) : Int) (y : Nat) = -1 := by unfold icmp; rw [if_pos (by omega)]
      rw [e, lex_nz (by decide)]
      unfold icmp
      rw [if_pos (by omega)]
    · have h2 : q * (y + 1) ≤ q * x := Nat.mul_le_mul_left q (by omega)
      rw [Nat.mul_succ] at h2
      have e : icmp ((x : Nat) : Int) (y : Nat) = 1 := by unfold icmp; rw [if_neg (by omega), if_pos (by omega)]
      rw [e, lex_nz (by decide)]
      unfold icmp
      rw [if_neg (by omega), if_pos (by omega)]
theorem cb_be8 {a b : Nat} (ha : a < 18446744073709551616) (hb : b < 18446744073709551616) (r r' : List UInt8) : cb (be8 a ++ r) (be8 b ++ r') = lex (icmp a b) (cb r r') := by
  have step : ∀ (q : Nat) (x y : List UInt8) (A B : Nat), 0 < q → cb (UInt8.ofNat (a / q % 256) :: x) (UInt8.ofNat (b / q % 256) :: y) = lex (icmp ((a / q % 256 : Nat) : Int) ((b / q % 256 : Nat) : Int)) (cb x y) := fun q x y _ _ _ => cb_byte (by omega) (by omega) x y
  have s0 := icmp_split (a := a) (b := b) (q := 256) (by omega)
  have s1 := icmp_split (a := a / 256) (b := b / 256) (q := 256) (by omega)
  have s2 := icmp_split (a := a / 65536) (b := b / 65536) (q := 256) (by omega)
  have s3 := icmp_split (a := a / 16777216) (b := b / 16777216) (q := 256) (by omega)
  have s4 := icmp_split (a := a / 4294967296) (b := b / 4294967296) (q := 256) (by omega)
  have s5 := icmp_split (a := a / 1099511627776) (b := b / 1099511627776) (q := 256) (by omega)
  have s6 := icmp_split (a := a / 281474976710656) (b := b / 281474976710656) (q := 256) (by omega)
  rw [Nat.div_div_eq_div_mul, Nat.div_div_eq_div_mul] at s1 s2 s3 s4 s5 s6
  have e7a : a / 72057594037927936 % 256 = a / 72057594037927936 := by omega
  have e7b : b / 72057594037927936 % 256 = b / 72057594037927936 := by omega
  simp only [be8, List.cons_append, List.nil_append]
  have last := cb_byte (a := a % 256) (b := b % 256) (by omega) (by omega) r r'
  rw [step 72057594037927936 _ _ 0 0 (by omega), step 281474976710656 _ _ 0 0 (by omega), step 1099511627776 _ _ 0 0 (by omega), step 4294967296 _ _ 0 0 (by omega), step 16777216 _ _ 0 0 (by omega), step 65536 _ _ 0 0 (by omega), step 256 _ _ 0 0 (by omega), last]
  rw [s0, s1, s2, s3, s4, s5, s6, e7a, e7b]
  simp only [lex_assoc]

theorem cb_list : ∀ (l l' : List PVal) (r r' : List UInt8), (∀ x ∈ l, ∀ y ∈ l', ∀ r r', cb (x.key ++ r) (y.key ++ r') = lex (cmpV x y) (cb r r')) →
    cb ((keyL l ++ [0]) ++ r) ((keyL l' ++ [0]) ++ r') = lex (cmpL l l') (lex (icmp l.length l'.length) (cb r r'))
  | [], [], r, r', _ => by
    show cb (0 :: r) (0 :: r') = _
    rw [cb_same, (cmpL_nil _).1]
    simp [icmp, lex_zero_left]
  | [], y :: t, r, r', _ => by
    show cb (0 :: r) (1 :: _) = _
    rw [cb_lt (by decide), (cmpL_nil _).1, lex_zero_left]
    have e : icmp (([] : List PVal).length : Int) ((y :: t).length : Nat) = -1 := by unfold icmp; rw [if_pos (by simp)]
    rw [e, lex_nz (by decide)]
  | x :: t, [], r, r', _ => by
    show cb (1 :: _) (0 :: r') = _
    rw [cb_gt (by decide), (cmpL_nil _).2, lex_zero_left]
    have e : icmp ((x :: t).length : Int) (([] : List PVal).length : Nat) = 1 := by unfold icmp; rw [if_neg (by simp <;> omega), if_pos (by simp <;> omega)]
    rw [e, lex_nz (by decide)]
  | x :: t, y :: u, r, r', h => by
    have ih := cb_list t u r r' (fun a ha b hb => h a (by simp [ha]) b (by simp [hb]))
    have e : (keyL (x :: t) ++ [0]) ++ r = 1 :: (x.key ++ ((keyL t ++ [0]) ++ r)) := by simp [keyL]
    have e' : (keyL (y :: u) ++ [0]) ++ r' = 1 :: (y.key ++ ((keyL u ++ [0]) ++ r')) := by simp [keyL]
    rw [e, e', cb_same, h x (by simp) y (by simp), ih, cmpL_cons, lex_assoc]
    have ei : icmp ((x :: t).length : Int) ((y :: u).length : Nat) = icmp t.length u.length := by
      unfold icmp
      simp only [List.length_cons]
      repeat' split
      all_goals omega
    rw [ei]
theorem cb_fields : ∀ (fn : List ByteArray) (fv : List PVal) (fn' : List ByteArray) (fv' : List PVal) (r r' : List UInt8), fn.length = fv.length → fn'.length = fv'.length → (∀ x ∈ fv, ∀ y ∈ fv', ∀ r r', cb (x.key ++ r) (y.key ++ r') = lex (cmpV x y) (cb r r')) →
    cb ((keyF fn fv ++ [0]) ++ r) ((keyF fn' fv' ++ [0]) ++ r') = lex (cmpF fn fv fn' fv') (lex (icmp fv.length fv'.length) (cb r r'))
  | [], [], [], [], r, r', _, _, _ => by
    show cb (0 :: r) (0 :: r') = _
    rw [cb_same]
    simp [cmpF, icmp, lex_zero_left]
  | [], [], b :: br, y :: t, r, r', _, _, _ => by
    show cb (0 :: r) (1 :: _) = _
    rw [cb_lt (by decide)]
    have e : icmp (([] : List PVal).length : Int) ((y :: t).length : Nat) = -1 := by unfold icmp; rw [if_pos (by simp)]
    rw [e]
    simp [cmpF, lex_zero_left, lex_nz]
  | a :: ar, x :: t, [], [], r, r', _, _, _ => by
    show cb (1 :: _) (0 :: r') = _
    rw [cb_gt (by decide)]
    have e : icmp ((x :: t).length : Int) (([] : List PVal).length : Nat) = 1 := by unfold icmp; rw [if_neg (by simp <;> omega), if_pos (by simp <;> omega)]
    rw [e]
    simp [cmpF, lex_zero_left, lex_nz]
  | a :: ar, x :: t, b :: br, y :: u, r, r', h1, h2, h => by
    have ih := cb_fields ar t br u r r' (by simpa using h1) (by simpa using h2) (fun a ha b hb => h a (by simp [ha]) b (by simp [hb]))
    have e : (keyF (a :: ar) (x :: t) ++ [0]) ++ r = 1 :: (esc a.data.toList ++ (x.key ++ ((keyF ar t ++ [0]) ++ r))) := by simp [keyF]
    have e' : (keyF (b :: br) (y :: u) ++ [0]) ++ r' = 1 :: (esc b.data.toList ++ (y.key ++ ((keyF br u ++ [0]) ++ r'))) := by simp [keyF]
    rw [e, e', cb_same, cb_esc, h x (by simp) y (by simp), ih, cmpF_cons, lex_assoc, lex_assoc]
    have ei : icmp ((x :: t).length : Int) ((y :: u).length : Nat) = icmp t.length u.length := by
      unfold icmp
      simp only [List.length_cons]
      repeat' split
      all_goals omega
    rw [ei]
    rfl
  | [], _ :: _, _, _, _, _, h, _, _ => by simp at h
  | _ :: _, [], _, _, _, _, h, _, _ => by simp at h
  | _, _, [], _ :: _, _, _, _, h, _ => by simp at h
  | _, _, _ :: _, [], _, _, _, h, _ => by simp at h

set_option maxHeartbeats 1000000 in
/-- Keys are ordered as their values, whatever stands behind. -/
theorem cb_key (V : PVal) : ∀ (V' : PVal) (r r' : List UInt8), V.all formedB = true → V'.all formedB = true → V.fits → V'.fits → cb (V.key ++ r) (V'.key ++ r') = lex (cmpV V V') (cb r r') := by
  induction V using PVal.ind with
  | h k n s l fn fv hl hf =>
    intro V' r r' hV hV' hfit hfit'
    obtain ⟨k', n', s', l', fn', fv'⟩ := V'
    have hA : (k = 5 → ∀ x ∈ l, x.all formedB = true) ∧ (k = 6 → ∀ x ∈ fv, x.all formedB = true) := by
      constructor
      · intro h5; subst h5
        simp only [PVal.all, allL_eq, Bool.and_eq_true, if_true, List.all_eq_true] at hV
        exact hV.2
      · intro h6; subst h6
        simp only [PVal.all, allL_eq, Bool.and_eq_true, List.all_eq_true, show ¬ (6 : Int) = 5 by omega, if_false, if_true] at hV
        exact hV.2
    have hA' : (k' = 5 → ∀ x ∈ l', x.all formedB = true) ∧ (k' = 6 → ∀ x ∈ fv', x.all formedB = true) := by
      constructor
      · intro h5; subst h5
        simp only [PVal.all, allL_eq, Bool.and_eq_true, if_true, List.all_eq_true] at hV'
        exact hV'.2
      · intro h6; subst h6
        simp only [PVal.all, allL_eq, Bool.and_eq_true, List.all_eq_true, show ¬ (6 : Int) = 5 by omega, if_false, if_true] at hV'
        exact hV'.2
    have hform : formedB (.mk k n s l fn fv) = true := by simp only [PVal.all, Bool.and_eq_true] at hV; exact hV.1
    have hform' : formedB (.mk k' n' s' l' fn' fv') = true := by simp only [PVal.all, Bool.and_eq_true] at hV'; exact hV'.1
    have hk : 1 ≤ k ∧ k ≤ 6 := by simp only [formedB, Bool.and_eq_true, decide_eq_true_eq] at hform; exact hform.1.1.1.1.1.1
    have hk' : 1 ≤ k' ∧ k' ≤ 6 := by simp only [formedB, Bool.and_eq_true, decide_eq_true_eq] at hform'; exact hform'.1.1.1.1.1.1
    have hb2 : k = 2 → n = 0 ∨ n = 1 := by simp only [formedB, Bool.and_eq_true, decide_eq_true_eq] at hform; exact hform.1.1.1.1.1.2
    have hb2' : k' = 2 → n' = 0 ∨ n' = 1 := by simp only [formedB, Bool.and_eq_true, decide_eq_true_eq] at hform'; exact hform'.1.1.1.1.1.2
    simp only [PVal.fits, fitsL_iff] at hfit hfit'
    obtain ⟨_, hn64, _, _, hlen, _, _, hLf, hFf⟩ := hfit
    obtain ⟨_, hn64', _, _, hlen', _, _, hLf', hFf'⟩ := hfit'
    rw [PVal.key, PVal.key, List.cons_append, List.cons_append]
    have hbyte : UInt8.ofNat (10 * k % 256).toNat = UInt8.ofNat (10 * k.toNat) := by congr 1; omega
    have hbyte' : UInt8.ofNat (10 * k' % 256).toNat = UInt8.ofNat (10 * k'.toNat) := by congr 1; omega
    rw [hbyte, hbyte', cb_byte (by omega) (by omega), cmpV_lex, lex_assoc]
    have hic : icmp ((10 * k.toNat : Nat) : Int) ((10 * k'.toNat : Nat) : Int) = icmp k k' := by
      unfold icmp
      repeat' split
      all_goals omega
    rw [hic]
    rcases Classical.em (¬ k = k') with hkk | hkk
    · have hne : icmp k k' ≠ 0 := by unfold icmp; split <;> (try split) <;> omega
      rw [lex_nz hne, lex_nz hne]
    obtain rfl : k = k' := Classical.not_not.1 hkk
    rw [icmp_self, lex_zero_left, lex_zero_left]
    obtain ⟨a1, a2, a3, a4⟩ := formed_has hform
    obtain ⟨b1, b2, b3, b4⟩ := formed_has hform'
    by_cases k5 : k = 5
    · have n0 := a1 (by omega) (by omega)
      have n0' := b1 (by omega) (by omega)
      have s0 := a2 (by omega)
      have s0' := b2 (by omega)
      have f0 := a4 (by omega)
      have f0' := b4 (by omega)
      subst n0 n0' s0 s0' f0 f0' k5
      have e : fn = [] := List.eq_nil_of_length_eq_zero (by simpa using hlen)
      have e' : fn' = [] := List.eq_nil_of_length_eq_zero (by simpa using hlen')
      subst e e'
      simp only [show (5 : Int) ≠ 2 by omega, show (5 : Int) ≠ 3 by omega, show (5 : Int) ≠ 4 by omega, if_false, if_true]
      rw [cb_list l l' r r' (fun x hx y hy r r' => hl x hx y r r' (hA.1 rfl x hx) (hA'.1 rfl y hy) (hLf x hx) (hLf' y hy))]
      have e1 : cmpF [] [] [] [] = 0 := rfl
      have e2 : icmp (([] : List PVal).length : Int) (([] : List PVal).length : Nat) = 0 := rfl
      rw [e1, e2, icmp_self, scmp_empty]
      simp only [lex_zero_left, lex_zero_right, lex_assoc]
    have l0 := a3 k5
    have l0' := b3 k5
    subst l0 l0'
    by_cases k6 : k = 6
    · have n0 := a1 (by omega) (by omega)
      have n0' := b1 (by omega) (by omega)
      have s0 := a2 (by omega)
      have s0' := b2 (by omega)
      subst n0 n0' s0 s0' k6
      simp only [show (6 : Int) ≠ 2 by omega, show (6 : Int) ≠ 3 by omega, show (6 : Int) ≠ 4 by omega, show (6 : Int) ≠ 5 by omega, if_false, if_true]
      rw [cb_fields fn fv fn' fv' r r' hlen hlen' (fun x hx y hy r r' => hf x hx y r r' (hA.2 rfl x hx) (hA'.2 rfl y hy) (hFf x hx) (hFf' y hy))]
      have e2 : icmp (([] : List PVal).length : Int) (([] : List PVal).length : Nat) = 0 := rfl
      rw [(cmpL_nil _).1, e2, icmp_self, scmp_empty]
      simp only [lex_zero_left, lex_assoc]
    have f0 := a4 k6
    have f0' := b4 k6
    subst f0 f0'
    have e : fn = [] := List.eq_nil_of_length_eq_zero (by simpa using hlen)
    have e' : fn' = [] := List.eq_nil_of_length_eq_zero (by simpa using hlen')
    subst e e'
    have e1 : cmpF [] [] [] [] = 0 := rfl
    have e2 : icmp (([] : List PVal).length : Int) (([] : List PVal).length : Nat) = 0 := rfl
    rw [(cmpL_nil _).1, e1, e2]
    simp only [lex_zero_left, lex_zero_right]
    by_cases k4 : k = 4
    · have n0 := a1 (by omega) (by omega)
      have n0' := b1 (by omega) (by omega)
      subst n0 n0' k4
      simp only [show (4 : Int) ≠ 2 by omega, show (4 : Int) ≠ 3 by omega, if_false, if_true]
      rw [cb_esc, icmp_self, lex_zero_left]
      rfl
    have s0 := a2 k4
    have s0' := b2 k4
    subst s0 s0'
    rw [scmp_empty, lex_zero_right]
    by_cases k3 : k = 3
    · subst k3
      simp only [I64] at hn64 hn64'
      simp only [show (3 : Int) ≠ 2 by omega, if_false, if_true]
      rw [cb_be8 (by omega) (by omega)]
      congr 1
      unfold icmp
      repeat' split
      all_goals omega
    by_cases k2 : k = 2
    · subst k2
      simp only [if_true]
      have q0 := hb2 rfl
      have q0' := hb2' rfl
      rw [List.cons_append, List.cons_append, List.nil_append, List.nil_append, cb_byte (by omega) (by omega)]
      congr 1
      rcases q0 with rfl | rfl <;> rcases q0' with rfl | rfl <;> rfl
    · have n0 := a1 k2 k3
      have n0' := b1 k2 k3
      subst n0 n0'
      rw [icmp_self, lex_zero_left]
      simp only [k2, k3, k4, k5, k6, if_false]
      rfl
/-- No good value's key begins another one's. -/
theorem key_prefix {V V' : PVal} (h : V.all formedB = true) (h' : V'.all formedB = true) (hf : V.fits) (hf' : V'.fits) (hc : cmpV V V' ≠ 0) : ∀ t, V.key ++ t ≠ V'.key := by
  intro t he
  have := cb_key V V' t [] h h' hf hf'
  rw [List.append_nil, he, lex_nz hc] at this
  have e : cb V'.key V'.key = 0 := (bytes_zero _ _).2 rfl
  rw [e] at this
  exact hc this.symm
end Go.Proofs.YtihcegakghmdfaaDoor

namespace Go.Proofs.YtihcegakghmdfaaDoor

def afterP : List UInt8 → Option (List UInt8)
  | [] => none
  | c :: r => match afterP r with
    | some r' => some (c :: r')
    | none => if c = 255 then none else some [UInt8.ofNat (c.toNat + 1)]
theorem afterP_all : ∀ {l : List UInt8}, (∀ x ∈ l, x = 255) → afterP l = none
  | [], _ => rfl
  | c :: r, h => by
    rw [afterP, afterP_all (fun x hx => h x (by simp [hx]))]
    simp only
    rw [if_pos (h c (by simp))]
theorem afterP_at : ∀ (p : List UInt8) {c : UInt8} {t : List UInt8}, c ≠ 255 → (∀ x ∈ t, x = 255) → afterP (p ++ c :: t) = some (p ++ [UInt8.ofNat (c.toNat + 1)])
  | [], c, t, hc, ht => by
    show afterP (c :: t) = _
    rw [afterP, afterP_all ht]
    simp only
    rw [if_neg hc]; rfl
  | d :: p, c, t, hc, ht => by
    show afterP (d :: (p ++ c :: t)) = _
    rw [afterP, afterP_at p hc ht]; rfl
theorem afterP_none : ∀ {l : List UInt8}, afterP l = none → ∀ x ∈ l, x = 255
  | [], _ => by simp
  | c :: r, h => by
    rw [afterP] at h
    split at h
    · cases h
    · rename_i hr
      split at h
      · rename_i hc
        intro x hx
        rcases List.mem_cons.1 hx with rfl | hx
        · exact hc
        · exact afterP_none hr x hx
      · cases h
theorem byte_succ {c : UInt8} (h : c ≠ 255) : c.toNat < 255 ∧ (UInt8.ofNat (c.toNat + 1)).toNat = c.toNat + 1 := by
  have h1 : c.toNat < 255 := by
    have := c.toNat_lt
    have : c.toNat ≠ 255 := fun e => h (UInt8.toNat_inj.1 e)
    omega
  exact ⟨h1, ofNat_toNat (by omega)⟩
theorem afterP_len : ∀ {l x : List UInt8}, afterP l = some x → x.length ≤ l.length
  | [], _, h => by cases h
  | c :: r, x, h => by
    rw [afterP] at h
    split at h
    · rename_i r' hr
      injection h with h
      subst h
      have := afterP_len hr
      simp only [List.length_cons]; omega
    · split at h
      · cases h
      · injection h with h
        subst h
        simp
theorem afterP_above : ∀ {l x : List UInt8} (b : List UInt8), afterP l = some x → cb (l ++ b) x = -1
  | [], _, _, h => by cases h
  | c :: r, x, b, h => by
    rw [afterP] at h
    split at h
    · rename_i r' hr
      injection h with h
      subst h
      rw [List.cons_append, cb_same]
      exact afterP_above b hr
    · split at h
      · cases h
      · rename_i hc
        injection h with h
        subst h
        obtain ⟨h1, h2⟩ := byte_succ hc
        rw [List.cons_append]
        exact cb_lt (by rw [UInt8.lt_iff_toNat_lt, h2]; omega) _ _
theorem cb_nil (s : List UInt8) : 0 ≤ cb s [] := by
  cases s with
  | nil => exact (by decide : (0 : Int) ≤ 0)
  | cons _ _ => exact (by decide : (0 : Int) ≤ 1)
theorem cb_full : ∀ {r : List UInt8} (s : List UInt8), (∀ x ∈ r, x = 255) → cb s r < 0 ∨ (r.length ≤ s.length ∧ s.take r.length = r)
  | [], s, _ => .inr (by simp)
  | c :: r, [], _ => .inl (by show (-1 : Int) < 0; decide)
  | c :: r, e :: s, h => by
    obtain rfl : c = 255 := h c (by simp)
    by_cases he : e = 255
    · subst he
      rw [cb_same]
      rcases cb_full (r := r) s (fun x hx => h x (by simp [hx])) with h1 | ⟨h1, h2⟩
      · exact .inl h1
      · exact .inr ⟨by simp; omega, by simp [h2]⟩
    · left
      have := byte_succ he
      rw [cb_lt (by rw [UInt8.lt_iff_toNat_lt]; show e.toNat < 255; omega)]
      decide
/-- Between some bytes and what is above all that begin so lie but these. -/
theorem afterP_least : ∀ {l x : List UInt8} (b : List UInt8), afterP l = some x → 0 ≤ cb b x ∨ cb b l < 0 ∨ (l.length ≤ b.length ∧ b.take l.length = l)
  | [], _, _, h => by cases h
  | c :: r, x, [], _ => .inr (.inl (by show (-1 : Int) < 0; decide))
  | c :: r, x, d :: s, h => by
    rw [afterP] at h
    rcases Nat.lt_trichotomy d.toNat c.toNat with hd | hd | hd
    · exact .inr (.inl (by rw [cb_lt (by rw [UInt8.lt_iff_toNat_lt]; exact hd)]; decide))
    · obtain rfl := UInt8.toNat_inj.1 hd
      split at h
      · rename_i r' hr
        injection h with h
        subst h
        rw [cb_same, cb_same]
        rcases afterP_least s hr with h1 | h1 | ⟨h1, h2⟩
        · exact .inl h1
        · exact .inr (.inl h1)
        · exact .inr (.inr ⟨by simp; omega, by simp [h2]⟩)
      · rename_i hr
        rw [cb_same]
        rcases cb_full s (afterP_none hr) with h1 | ⟨h1, h2⟩
        · exact .inr (.inl h1)
        · exact .inr (.inr ⟨by simp; omega, by simp [h2]⟩)
    · left
      split at h
      · injection h with h
        subst h
        rw [cb_gt (by rw [UInt8.lt_iff_toNat_lt]; exact hd)]
        decide
      · split at h
        · cases h
        · rename_i hc
          injection h with h
          subst h
          obtain ⟨h1, h2⟩ := byte_succ hc
          by_cases he : d.toNat = c.toNat + 1
          · obtain rfl : d = UInt8.ofNat (c.toNat + 1) := UInt8.toNat_inj.1 (by rw [h2]; exact he)
            rw [cb_same]
            exact cb_nil s
          · rw [cb_gt (by rw [UInt8.lt_iff_toNat_lt, h2]; omega)]
            decide
end Go.Proofs.YtihcegakghmdfaaDoor

namespace Go.Proofs.YtihcegakghmdfaaDoor

theorem txtK_len (st : Bool) : ∀ (l t : List UInt8) (c : Nat), txtK st l = some (t, c) → (esc t).length = c
  | [], _, _, h => by cases h
  | [_], _, _, h => by cases h
  | a :: d :: r, t, c, h => by
    rw [txtK] at h
    split at h
    · rename_i ha
      split at h
      · obtain ⟨p, hp, he⟩ := Option.map_eq_some_iff.1 h
        have := txtK_len st r p.1 p.2 hp
        injection he with e1 e2
        subst e1 e2
        unfold esc at this ⊢
        rw [List.flatMap_cons, List.append_assoc, List.length_append, this]
        simp [escB]; omega
      · split at h
        · cases h
        · injection h with h
          injection h with e1 e2
          subst e1 e2
          rfl
    · rename_i ha
      obtain ⟨p, hp, he⟩ := Option.map_eq_some_iff.1 h
      have := txtK_len st (d :: r) p.1 p.2 hp
      injection he with e1 e2
      subst e1 e2
      unfold esc at this ⊢
      rw [List.flatMap_cons, List.append_assoc, List.length_append, this]
      unfold escB
      rw [if_neg ha]
      simp; omega
theorem listK_len {st : Bool} {p : List UInt8 → Option (PVal × Nat)} (hp : ∀ l x c, p l = some (x, c) → x.key.length = c) : ∀ (f : Nat) (l : List UInt8) (xs : List PVal) (c : Nat), listK st p f l = some (xs, c) → (keyL xs).length + 1 = c
  | 0, _, _, _, h => by cases h
  | _ + 1, [], _, _, h => by cases h
  | f + 1, a :: r, xs, c, h => by
    rw [listK] at h
    split at h
    · injection h with h
      injection h with e1 e2
      subst e1 e2
      rfl
    split at h
    · cases h
    split at h
    · cases h
    rename_i x k hx
    split at h
    · cases h
    rename_i ys j hy
    injection h with h
    injection h with e1 e2
    subst e1 e2
    have h1 := hp _ _ _ hx
    have h2 := listK_len hp f _ _ _ hy
    simp only [keyL, List.length_cons, List.length_append]; omega
theorem fieldsK_len {st : Bool} {p : List UInt8 → Option (PVal × Nat)} (hp : ∀ l x c, p l = some (x, c) → x.key.length = c) : ∀ (f : Nat) (l : List UInt8) (fn : List ByteArray) (fv : List PVal) (c : Nat), fieldsK st p f l = some ((fn, fv), c) → (keyF fn fv).length + 1 = c
  | 0, _, _, _, _, h => by cases h
  | _ + 1, [], _, _, _, h => by cases h
  | f + 1, a :: r, fn, fv, c, h => by
    rw [fieldsK] at h
    split at h
    · injection h with h
      injection h with e1 e2
      injection e1 with e1 e3
      subst e1 e2 e3
      rfl
    split at h
    · cases h
    split at h
    · cases h
    rename_i t i ht
    split at h
    · cases h
    rename_i x k hx
    split at h
    · cases h
    rename_i gn gv j hy
    injection h with h
    injection h with e1 e2
    injection e1 with e1 e3
    subst e1 e2 e3
    have h0 := txtK_len st _ _ _ ht
    have h1 := hp _ _ _ hx
    have h2 := fieldsK_len hp f _ _ _ _ hy
    simp only [keyF, List.length_cons, List.length_append, h0]; omega
/-- What is read is as long as its key. -/
theorem keyR_len (st : Bool) : ∀ (m : Nat) (l : List UInt8) (V : PVal) (c : Nat), keyR st m l = some (V, c) → V.key.length = c
  | 0, _, _, _, h => by cases h
  | m + 1, [], _, _, h => by cases h
  | m + 1, k :: r, V, c, h => by
    have hp := keyR_len st m
    simp only [keyR, headK] at h
    split at h
    · cases h
    split at h
    · injection h with h; injection h with e1 e2; subst e1 e2
      rfl
    split at h
    · split at h
      · cases h
      injection h with h; injection h with e1 e2; subst e1 e2
      rfl
    split at h
    · split at h
      · cases h
      injection h with h; injection h with e1 e2; subst e1 e2
      rfl
    split at h
    · split at h
      · cases h
      rename_i t i ht
      injection h with h; injection h with e1 e2; subst e1 e2
      have h0 := txtK_len st _ _ _ ht
      simp only [PVal.key, show (4 : Int) ≠ 2 by omega, show (4 : Int) ≠ 3 by omega, if_false, if_true, List.length_cons, h0]; omega
    split at h
    · split at h
      · cases h
      rename_i xs i hx
      injection h with h; injection h with e1 e2; subst e1 e2
      have h0 := listK_len hp _ _ _ _ hx
      simp only [PVal.key, show (5 : Int) ≠ 2 by omega, show (5 : Int) ≠ 3 by omega, show (5 : Int) ≠ 4 by omega, if_false, if_true, List.length_cons, List.length_append, List.length_nil]; omega
    · split at h
      · cases h
      rename_i fn fv i hx
      injection h with h; injection h with e1 e2; subst e1 e2
      have h0 := fieldsK_len hp _ _ _ _ _ hx
      simp only [PVal.key, show (6 : Int) ≠ 2 by omega, show (6 : Int) ≠ 3 by omega, show (6 : Int) ≠ 4 by omega, show (6 : Int) ≠ 5 by omega, if_false, if_true, List.length_cons, List.length_append, List.length_nil]; omega
theorem seqK_keys : ∀ (n : Nat) (l : List UInt8) (xs : List PVal) (c : Nat), seqK n l = some (xs, c) → (keysP xs).length = c
  | 0, l, xs, c, h => by
    injection h with h
    injection h with e1 e2
    subst e1 e2
    rfl
  | n + 1, l, xs, c, h => by
    rw [seqK] at h
    split at h
    · cases h
    rename_i x k hx
    split at h
    · cases h
    rename_i ys j hy
    injection h with h
    injection h with e1 e2
    subst e1 e2
    have h1 := keyR_len false 9 _ _ _ hx
    have h2 := seqK_keys n _ _ _ hy
    have e : keysP (x :: ys) = x.key ++ keysP ys := by simp [keysP]
    rw [e, List.length_append]; omega
/-- The first of the values that is not good: what is wrong with it. -/
def badI : List PVal → Int
  | [] => 0
  | x :: r => if x.good = 0 then badI r else x.good
theorem badI_zero {l : List PVal} : badI l = 0 ↔ ∀ x ∈ l, x.good = 0 := by
  induction l with
  | nil => simp [badI]
  | cons x r ih =>
    unfold badI
    by_cases h : x.good = 0
    · rw [if_pos h, ih]; simp [h]
    · rw [if_neg h]; simp [h]
theorem badI_at {l : List PVal} {i : Nat} {x : PVal} (h : l[i]? = some x) (hb : ∀ y ∈ l.take i, y.good = 0) (hx : x.good ≠ 0) : badI l = x.good := by
  induction l generalizing i with
  | nil => simp at h
  | cons y r ih =>
    cases i with
    | zero =>
      obtain rfl : y = x := by simpa using h
      unfold badI
      rw [if_neg hx]
    | succ i =>
      unfold badI
      rw [if_pos (hb y (by simp))]
      exact ih (by simpa using h) (fun z hz => hb z (by simp [hz]))
theorem nodes_massL (l : List PVal) (h : ∀ x ∈ l, x.nodes ≤ x.mass) : nodesL l ≤ massL l := by
  induction l with
  | nil => simp [nodesL, massL]
  | cons x r ih =>
    have h1 := h x (by simp)
    have h2 := ih (fun y hy => h y (by simp [hy]))
    simp only [nodesL, massL]; omega
theorem nodes_mass (V : PVal) : V.nodes ≤ V.mass := by
  induction V using PVal.ind with
  | h k n s l fn fv hl hf =>
    have h1 := nodes_massL l hl
    have h2 := nodes_massL fv hf
    simp only [PVal.nodes, PVal.mass]; omega
theorem size_mass {V : PVal} (h : V.fits) : V.size ≤ V.mass := by
  rw [size_enc V h]; exact enc_le V h
theorem keysP_cons (x : PVal) (l : List PVal) : keysP (x :: l) = x.key ++ keysP l := by simp [keysP]
theorem keysP_append (a b : List PVal) : keysP (a ++ b) = keysP a ++ keysP b := by simp [keysP]
theorem keysP_succ {l : List PVal} {i : Nat} {x : PVal} (h : l[i]? = some x) : keysP (l.take (i + 1)) = keysP (l.take i) ++ x.key := by
  rw [take_succ_of h, keysP_append]; simp [keysP]
theorem keysP_le (l : List PVal) : (keysP l).length ≤ 2 * massL l := by
  induction l with
  | nil => simp [keysP]
  | cons x r ih =>
    have := key_le x
    rw [keysP_cons, List.length_append]
    simp only [massL]; omega
theorem keysP_take_le (l : List PVal) (j : Nat) : (keysP (l.take j)).length ≤ (keysP l).length := by
  conv => rhs; rw [← List.take_append_drop j l, keysP_append]
  rw [List.length_append]; omega
theorem key_ne (V : PVal) : V.key ≠ [] := by cases V; simp [PVal.key]
/-- How many of a list of values there may be. -/
theorem splitP_is {l : List UInt8} {n : Nat} {xs : List PVal} (h : splitP l n = some xs) : ∃ c, seqK n l = some (xs, c) ∧ badI xs = 0 ∧ keysP xs = l := by
  unfold splitP at h
  split at h
  · cases h
  rename_i ys c hy
  split at h
  · rename_i hc
    injection h with h
    subst h
    exact ⟨c, hy, badI_zero.2 (fun x hx => by simpa using List.all_eq_true.1 hc.1 x hx), hc.2⟩
  · cases h
theorem splitP_no {l : List UInt8} {n : Nat} {xs : List PVal} {c : Nat} (hs : seqK n l = some (xs, c)) (h : ¬ (badI xs = 0 ∧ keysP xs = l)) : splitP l n = none := by
  unfold splitP
  rw [hs]
  simp only
  rw [if_neg]
  rintro ⟨h1, h2⟩
  exact h ⟨badI_zero.2 (fun x hx => by simpa using List.all_eq_true.1 h1 x hx), h2⟩
theorem splitP_yes {l : List UInt8} {n : Nat} {xs : List PVal} {c : Nat} (hs : seqK n l = some (xs, c)) (h1 : badI xs = 0) (h2 : keysP xs = l) : splitP l n = some xs := by
  unfold splitP
  rw [hs]
  simp only
  rw [if_pos ⟨List.all_eq_true.2 (fun x hx => by simp [badI_zero.1 h1 x hx]), h2⟩]
end Go.Proofs.YtihcegakghmdfaaDoor

namespace Go.Proofs.YtihcegakghmdfaaDoor

/-- What the first elements give, and what the rest says. -/
def GoL (G : Option (List PVal × Nat)) (xs : List PVal) (c : Nat) : Option (List PVal × Nat) → Prop
  | none => G = none
  | some (ys, k) => G = some (xs ++ ys, c + k)
theorem goL_start (G : Option (List PVal × Nat)) : GoL G [] 0 G := by
  cases G with
  | none => rfl
  | some p => obtain ⟨ys, k⟩ := p; show _ = some ([] ++ ys, 0 + k); simp
section
variable {G : Option (List PVal × Nat)} {xs : List PVal} {c f : Nat} {a : UInt8} {r l : List UInt8} {p : List UInt8 → Option (PVal × Nat)}
theorem goL_step (h : GoL G xs c (listK false p (f + 1) (a :: r))) (ha : a ≠ 0) :
    match p r with
    | none => G = none
    | some (x, k) => GoL G (xs ++ [x]) (c + 1 + k) (listK false p f (r.drop k)) := by
  rw [listK, if_neg ha, if_neg (by simp)] at h
  cases hp : p r with
  | none => rw [hp] at h; exact h
  | some q =>
    obtain ⟨x, k⟩ := q
    rw [hp] at h
    simp only at h ⊢
    cases hl : listK false p f (r.drop k) with
    | none => rw [hl] at h; exact h
    | some q =>
      obtain ⟨ys, j⟩ := q
      rw [hl] at h
      show G = some ((xs ++ [x]) ++ ys, c + 1 + k + j)
      rw [show G = some (xs ++ (x :: ys), c + (1 + k + j)) from h]
      simp [Nat.add_assoc]
theorem goL_end (h : GoL G xs c (listK false p (f + 1) (a :: r))) (ha : a = 0) : G = some (xs, c + 1) := by
  rw [listK, if_pos ha] at h
  have : G = some (xs ++ [], c + 1) := h
  simpa using this
theorem goL_nil (h : GoL G xs c (listK false p f [])) : G = none := by
  cases f <;> exact h
theorem goS_step {n : Nat} (h : GoL G xs c (seqK (n + 1) l)) :
    match keyR false 9 l with
    | none => G = none
    | some (x, k) => GoL G (xs ++ [x]) (c + k) (seqK n (l.drop k)) := by
  rw [seqK] at h
  cases hp : keyR false 9 l with
  | none => rw [hp] at h; exact h
  | some q =>
    obtain ⟨x, k⟩ := q
    rw [hp] at h
    simp only at h ⊢
    cases hl : seqK n (l.drop k) with
    | none => rw [hl] at h; exact h
    | some q =>
      obtain ⟨ys, j⟩ := q
      rw [hl] at h
      show G = some ((xs ++ [x]) ++ ys, c + k + j)
      rw [show G = some (xs ++ (x :: ys), c + (k + j)) from h]
      simp [Nat.add_assoc]
theorem goS_end (h : GoL G xs c (seqK 0 l)) : G = some (xs, c) := by
  have : G = some (xs ++ [], c + 0) := h
  simpa using this
end
abbrev Nfs := List (ByteArray × PVal)
def GoF (G : Option ((List ByteArray × List PVal) × Nat)) (fs : Nfs) (c : Nat) : Option ((List ByteArray × List PVal) × Nat) → Prop
  | none => G = none
  | some ((fn, fv), k) => G = some ((fs.map Prod.fst ++ fn, fs.map Prod.snd ++ fv), c + k)
theorem goF_start (G : Option ((List ByteArray × List PVal) × Nat)) : GoF G [] 0 G := by
  cases G with
  | none => rfl
  | some p => obtain ⟨⟨fn, fv⟩, k⟩ := p; show _ = some (([] ++ fn, [] ++ fv), 0 + k); simp
section
variable {G : Option ((List ByteArray × List PVal) × Nat)} {fs : Nfs} {c f : Nat} {a : UInt8} {r l : List UInt8} {p : List UInt8 → Option (PVal × Nat)}
theorem goF_step (h : GoF G fs c (fieldsK false p (f + 1) (a :: r))) (ha : a ≠ 0) :
    match txtK false r with
    | none => G = none
    | some (t, i) => match p (r.drop i) with
      | none => G = none
      | some (x, k) => GoF G (fs ++ [((⟨t.toArray⟩ : ByteArray), x)]) (c + 1 + i + k) (fieldsK false p f (r.drop (i + k))) := by
  rw [fieldsK, if_neg ha, if_neg (by simp)] at h
  cases ht : txtK false r with
  | none => rw [ht] at h; exact h
  | some q =>
    obtain ⟨t, i⟩ := q
    rw [ht] at h
    simp only at h ⊢
    cases hp : p (r.drop i) with
    | none => rw [hp] at h; exact h
    | some q =>
      obtain ⟨x, k⟩ := q
      rw [hp] at h
      simp only at h ⊢
      cases hl : fieldsK false p f (r.drop (i + k)) with
      | none => rw [hl] at h; exact h
      | some q =>
        obtain ⟨⟨fn, fv⟩, j⟩ := q
        rw [hl] at h
        show G = some (((fs ++ [((⟨t.toArray⟩ : ByteArray), x)]).map Prod.fst ++ fn, (fs ++ [((⟨t.toArray⟩ : ByteArray), x)]).map Prod.snd ++ fv), c + 1 + i + k + j)
        rw [show G = some ((fs.map Prod.fst ++ (⟨t.toArray⟩ :: fn), fs.map Prod.snd ++ (x :: fv)), c + (1 + i + k + j)) from h]
        simp [Nat.add_assoc]
theorem goF_end (h : GoF G fs c (fieldsK false p (f + 1) (a :: r))) (ha : a = 0) : G = some ((fs.map Prod.fst, fs.map Prod.snd), c + 1) := by
  rw [fieldsK, if_pos ha] at h
  have : G = some ((fs.map Prod.fst ++ [], fs.map Prod.snd ++ []), c + 1) := h
  simpa using this
theorem goF_nil (h : GoF G fs c (fieldsK false p f [])) : G = none := by
  cases f <;> exact h
end
def GoT (G : Option (List UInt8 × Nat)) (t : List UInt8) (c : Nat) : Option (List UInt8 × Nat) → Prop
  | none => G = none
  | some (u, k) => G = some (t ++ u, c + k)
theorem goT_start (G : Option (List UInt8 × Nat)) : GoT G [] 0 G := by
  cases G with
  | none => rfl
  | some p => obtain ⟨ys, k⟩ := p; show _ = some ([] ++ ys, 0 + k); simp
section
variable {G : Option (List UInt8 × Nat)} {t : List UInt8} {c : Nat} {a d : UInt8} {r : List UInt8}
theorem goT_nil (h : GoT G t c (txtK false [])) : G = none := h
theorem goT_zero (h : GoT G t c (txtK false [0])) : G = none := h
theorem goT_char (h : GoT G t c (txtK false (a :: r))) (ha : a ≠ 0) : GoT G (t ++ [a]) (c + 1) (txtK false r) := by
  cases r with
  | nil => exact h
  | cons d r =>
    rw [txtK, if_neg ha] at h
    cases hl : txtK false (d :: r) with
    | none => rw [hl] at h; exact h
    | some q =>
      obtain ⟨u, k⟩ := q
      rw [hl] at h
      show G = some ((t ++ [a]) ++ u, c + 1 + k)
      rw [show G = some (t ++ (a :: u), c + (k + 1)) from h]
      simp; omega
theorem goT_esc (h : GoT G t c (txtK false (0 :: 255 :: r))) : GoT G (t ++ [0]) (c + 2) (txtK false r) := by
  rw [txtK, if_pos rfl, if_pos rfl] at h
  cases hl : txtK false r with
  | none => rw [hl] at h; exact h
  | some q =>
    obtain ⟨u, k⟩ := q
    rw [hl] at h
    show G = some ((t ++ [0]) ++ u, c + 2 + k)
    rw [show G = some (t ++ (0 :: u), c + (k + 2)) from h]
    simp; omega
theorem goT_end (h : GoT G t c (txtK false (0 :: d :: r))) (hd : d ≠ 255) : G = some (t, c + 2) := by
  rw [txtK, if_pos rfl, if_neg hd, if_neg (by simp)] at h
  have : G = some (t ++ [], c + 2) := h
  simpa using this
end
section
variable {p : List UInt8 → Option (PVal × Nat)} {k : UInt8} {r : List UInt8}
theorem headK_0 (h : ¬ (1 ≤ k.toNat / 10 ∧ k.toNat / 10 ≤ 6)) : headK false p (k :: r) = none := by
  simp only [headK]
  rw [if_pos (by omega)]
theorem headK_1 (h : k.toNat / 10 = 1) : headK false p (k :: r) = some (.mk 1 0 ByteArray.empty [] [] [], 1) := by
  simp only [headK]
  rw [if_neg (by simp; omega), if_pos h]
theorem headK_2 (h : k.toNat / 10 = 2) : headK false p (k :: r) = match r with
      | [] => none
      | d :: _ => some (.mk 2 d.toNat ByteArray.empty [] [] [], 2) := by
  simp only [headK]
  rw [if_neg (by simp; omega), if_neg (by omega), if_pos h]
  all_goals (cases r <;> rfl)
theorem headK_3 (h : k.toNat / 10 = 3) : headK false p (k :: r) = if r.length < 8 then none else some (.mk 3 ((of8 (r.take 8) : Int) - 9223372036854775808) ByteArray.empty [] [] [], 9) := by
  simp only [headK]
  rw [if_neg (by simp; omega), if_neg (by omega), if_neg (by omega), if_pos h]
theorem headK_4 (h : k.toNat / 10 = 4) : headK false p (k :: r) = match txtK false r with
      | none => none
      | some (t, c) => some (.mk 4 0 ⟨t.toArray⟩ [] [] [], 1 + c) := by
  simp only [headK]
  rw [if_neg (by simp; omega), if_neg (by omega), if_neg (by omega), if_neg (by omega), if_pos h]
  all_goals (cases txtK false r <;> rfl)
theorem headK_5 (h : k.toNat / 10 = 5) : headK false p (k :: r) = match listK false p (r.length + 1) r with
      | none => none
      | some (xs, c) => some (.mk 5 0 ByteArray.empty xs [] [], 1 + c) := by
  simp only [headK]
  rw [if_neg (by simp; omega), if_neg (by omega), if_neg (by omega), if_neg (by omega), if_neg (by omega), if_pos h]
  all_goals (cases listK false p (r.length + 1) r <;> rfl)
theorem headK_6 (h : k.toNat / 10 = 6) : headK false p (k :: r) = match fieldsK false p (r.length + 1) r with
      | none => none
      | some ((fn, fv), c) => some (.mk 6 0 ByteArray.empty [] fn fv, 1 + c) := by
  simp only [headK]
  rw [if_neg (by simp; omega), if_neg (by omega), if_neg (by omega), if_neg (by omega), if_neg (by omega), if_neg (by omega)]
  all_goals (cases fieldsK false p (r.length + 1) r <;> rfl)
end
end Go.Proofs.YtihcegakghmdfaaDoor
