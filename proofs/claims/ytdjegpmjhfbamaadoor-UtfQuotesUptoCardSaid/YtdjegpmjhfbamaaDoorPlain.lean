/-
  Plain values, as the document has them, with no program in sight: their parts, depth, count, bytes, what is wrong with them, their order. No condition.
-/
import GoSem.Op.String
import Derived.Lib.ValidU
import Derived.Lib.Bytealg
namespace Go.Proofs.YtdjegpmjhfbamaaDoor

/-- A value: its kind, number, text, list, and a document's names and values. -/
inductive PVal where
  | mk (k n : Int) (s : ByteArray) (l : List PVal) (fn : List ByteArray) (fv : List PVal)

namespace PVal
theorem ind {M : PVal → Prop} (h : ∀ k n s l fn fv, (∀ x ∈ l, M x) → (∀ x ∈ fv, M x) → M (.mk k n s l fn fv)) : ∀ v, M v
  | .mk k n s l fn fv => h k n s l fn fv (fun x _ => ind h x) (fun x _ => ind h x)

def k : PVal → Int | .mk k _ _ _ _ _ => k
def n : PVal → Int | .mk _ n _ _ _ _ => n
def s : PVal → ByteArray | .mk _ _ s _ _ _ => s
def l : PVal → List PVal | .mk _ _ _ l _ _ => l
def fn : PVal → List ByteArray | .mk _ _ _ _ fn _ => fn
def fv : PVal → List PVal | .mk _ _ _ _ _ fv => fv

def parts : PVal → List PVal
  | .mk k _ _ l _ fv => if k = 5 then l else if k = 6 then fv else []
end PVal

mutual
def PVal.depth : PVal → Nat
  | .mk k _ _ l _ fv => if k = 5 then depthL l + 1 else if k = 6 then depthL fv + 1 else 0
def depthL : List PVal → Nat
  | [] => 0
  | x :: r => max x.depth (depthL r)
end
mutual
def PVal.count : PVal → Nat
  | .mk k _ _ l _ fv => if k = 5 then countL l + 1 else if k = 6 then countL fv + 1 else 1
def countL : List PVal → Nat
  | [] => 0
  | x :: r => x.count + countL r
end
-- all that a value holds, whatever its kind
mutual
def PVal.nodes : PVal → Nat
  | .mk _ _ _ l _ fv => nodesL l + nodesL fv + 1
def nodesL : List PVal → Nat
  | [] => 0
  | x :: r => x.nodes + nodesL r
end
mutual
def PVal.all (p : PVal → Bool) : PVal → Bool
  | .mk k n s l fn fv => p (.mk k n s l fn fv) && (if k = 5 then allL p l else if k = 6 then allL p fv else true)
def allL (p : PVal → Bool) : List PVal → Bool
  | [] => true
  | x :: r => x.all p && allL p r
end

theorem allL_eq (p : PVal → Bool) (l : List PVal) : allL p l = l.all (·.all p) := by
  induction l with
  | nil => simp [allL]
  | cons x r ih => simp [allL, ih]
theorem all_parts (p : PVal → Bool) (v : PVal) : v.all p = (p v && v.parts.all (·.all p)) := by
  cases v with
  | mk k n s l fn fv =>
    simp only [PVal.all, PVal.parts, allL_eq]
    by_cases h5 : k = 5 <;> by_cases h6 : k = 6 <;> simp [h5, h6]
theorem depth_parts (v : PVal) : v.depth = if v.k = 5 ∨ v.k = 6 then depthL v.parts + 1 else 0 := by
  cases v with
  | mk k n s l fn fv =>
    simp only [PVal.depth, PVal.parts, PVal.k]
    by_cases h5 : k = 5 <;> by_cases h6 : k = 6 <;> simp [h5, h6]
theorem depth_some {V : PVal} (h : V.k = 5 ∨ V.k = 6) : V.depth = depthL V.parts + 1 := by rw [depth_parts, if_pos h]
theorem count_parts (v : PVal) : v.count = countL v.parts + 1 := by
  cases v with
  | mk k n s l fn fv =>
    simp only [PVal.count, PVal.parts]
    by_cases h5 : k = 5 <;> by_cases h6 : k = 6 <;> simp [h5, h6, countL]

theorem depthL_append (a b : List PVal) : depthL (a ++ b) = max (depthL a) (depthL b) := by
  induction a with
  | nil => simp [depthL]
  | cons x r ih => simp only [List.cons_append, depthL, ih]; omega
theorem countL_append (a b : List PVal) : countL (a ++ b) = countL a + countL b := by
  induction a with
  | nil => simp [countL]
  | cons x r ih => simp only [List.cons_append, countL, ih]; omega
theorem nodesL_append (a b : List PVal) : nodesL (a ++ b) = nodesL a + nodesL b := by
  induction a with
  | nil => simp [nodesL]
  | cons x r ih => simp only [List.cons_append, nodesL, ih]; omega

theorem take_succ_of {α : Type} {l : List α} {i : Nat} {x : α} (h : l[i]? = some x) : l.take (i + 1) = l.take i ++ [x] := by
  rw [List.take_add_one, h]; rfl
theorem depthL_succ {l : List PVal} {i : Nat} {x : PVal} (h : l[i]? = some x) : depthL (l.take (i + 1)) = max (depthL (l.take i)) x.depth := by
  rw [take_succ_of h, depthL_append]; simp [depthL]
theorem countL_succ {l : List PVal} {i : Nat} {x : PVal} (h : l[i]? = some x) : countL (l.take (i + 1)) = countL (l.take i) + x.count := by
  rw [take_succ_of h, countL_append]; simp [countL]
theorem nodesL_succ {l : List PVal} {i : Nat} {x : PVal} (h : l[i]? = some x) : nodesL (l.take (i + 1)) = nodesL (l.take i) + x.nodes := by
  rw [take_succ_of h, nodesL_append]; simp [nodesL]

theorem countL_take_le (l : List PVal) (i : Nat) : countL (l.take i) ≤ countL l := by
  conv => rhs; rw [← List.take_append_drop i l, countL_append]
  omega
theorem depthL_take_le (l : List PVal) (i : Nat) : depthL (l.take i) ≤ depthL l := by
  conv => rhs; rw [← List.take_append_drop i l, depthL_append]
  omega
theorem nodesL_take_le (l : List PVal) (i : Nat) : nodesL (l.take i) ≤ nodesL l := by
  conv => rhs; rw [← List.take_append_drop i l, nodesL_append]
  omega
theorem nodes_pos (v : PVal) : 1 ≤ v.nodes := by cases v; simp [PVal.nodes]
theorem nodesL_length (l : List PVal) : l.length ≤ nodesL l := by
  induction l with
  | nil => simp
  | cons x r ih => have := nodes_pos x; simp only [List.length_cons, nodesL]; omega
theorem nodes_mem {l : List PVal} {x : PVal} (h : x ∈ l) : x.nodes ≤ nodesL l := by
  induction l with
  | nil => cases h
  | cons y r ih =>
    simp only [nodesL]
    rcases List.mem_cons.1 h with rfl | h
    · omega
    · have := ih h; omega
theorem nodes_parts (v : PVal) : nodesL v.parts + 1 ≤ v.nodes := by
  cases v with
  | mk k n s l fn fv =>
    simp only [PVal.parts, PVal.nodes]
    by_cases h5 : k = 5 <;> by_cases h6 : k = 6 <;> simp [h5, h6, nodesL] <;> omega
theorem countL_le_nodesL (l : List PVal) (h : ∀ x ∈ l, x.count ≤ x.nodes) : countL l ≤ nodesL l := by
  induction l with
  | nil => simp [countL, nodesL]
  | cons x r ih =>
    have h1 := h x (by simp)
    have h2 := ih (fun y hy => h y (by simp [hy]))
    simp only [countL, nodesL]; omega
theorem count_le_nodes (v : PVal) : v.count ≤ v.nodes := by
  induction v using PVal.ind with
  | h k n s l fn fv hl hf =>
    have h1 := countL_le_nodesL l hl
    have h2 := countL_le_nodesL fv hf
    simp only [PVal.count, PVal.nodes]
    by_cases h5 : k = 5 <;> by_cases h6 : k = 6 <;> simp [h5, h6] <;> omega
theorem depthL_le_nodesL (l : List PVal) (h : ∀ x ∈ l, x.depth ≤ x.nodes) : depthL l ≤ nodesL l := by
  induction l with
  | nil => simp [depthL]
  | cons x r ih =>
    have h1 := h x (by simp)
    have h2 := ih (fun y hy => h y (by simp [hy]))
    simp only [depthL, nodesL]; omega
theorem depth_le_nodes (v : PVal) : v.depth ≤ v.nodes := by
  induction v using PVal.ind with
  | h k n s l fn fv hl hf =>
    have h1 := depthL_le_nodesL l hl
    have h2 := depthL_le_nodesL fv hf
    simp only [PVal.depth, PVal.nodes]
    by_cases h5 : k = 5 <;> by_cases h6 : k = 6 <;> simp [h5, h6] <;> omega

/-- Go's '<' on strings. -/
def blt (a b : ByteArray) : Bool := Op.bytesLess a.toList b.toList
def scmp (a b : ByteArray) : Int := Lib.compareBytes a.data.toList b.data.toList
def utf (s : ByteArray) : Bool := Lib.validD s.data.toList

def rising : List ByteArray → Bool
  | a :: b :: r => blt a b && rising (b :: r)
  | _ => true

def formedB : PVal → Bool
  | .mk k n s l fn fv =>
    decide (1 ≤ k ∧ k ≤ 6) && decide (k = 2 → n = 0 ∨ n = 1) && decide (k ≠ 2 → k ≠ 3 → n = 0) && decide (k ≠ 4 → s.toList = []) &&
      decide (k ≠ 5 → l.length = 0) && decide (k ≠ 6 → fv.length = 0) && rising fn
def spelledB : PVal → Bool
  | .mk _ _ s _ fn _ => utf s && fn.all utf
def fewB : PVal → Bool
  | .mk _ _ _ l fn fv => decide (l.length ≤ 32) && decide (fv.length ≤ 32) && fn.all fun x => decide (1 ≤ x.size ∧ x.size ≤ 24)

/-- A number's varint. -/
def digits (n : Nat) : Nat := if n < 128 then 1 else digits (n / 128) + 1
def varint (n : Nat) : List UInt8 := if n < 128 then [UInt8.ofNat n] else UInt8.ofNat (n % 128 + 128) :: varint (n / 128)
def turned (n : Int) : Nat := if n < 0 then (-2 * n - 1).toNat else (2 * n).toNat

mutual
def PVal.size : PVal → Nat
  | .mk k n s l fn fv => 1 + (if k = 2 then 1 else if k = 3 then digits (turned n) else if k = 4 then digits s.size + s.size else if k = 5 then digits l.length + sizeL l
      else if k = 6 then digits fv.length + namesSize fn + sizeL fv else 0)
def sizeL : List PVal → Nat
  | [] => 0
  | x :: r => x.size + sizeL r
def namesSize : List ByteArray → Nat
  | [] => 0
  | a :: r => digits a.size + a.size + namesSize r
end

/-- What is wrong with a value: 0: nothing. -/
def PVal.good (v : PVal) : Int :=
  if v.all formedB = false then 4 else if v.all spelledB = false then 11 else if v.all fewB = false then 15 else if 8 < v.depth then 3 else if 2048 < v.size then 2 else 0
theorem digits_le (n : Nat) (h : n < 18446744073709551616) : 1 ≤ digits n ∧ digits n ≤ 10 := by
  have key : ∀ m k, k < 128 ^ (m + 1) → digits k ≤ m + 1 := by
    intro m
    induction m with
    | zero => intro k hk; unfold digits; rw [if_pos (by omega)]; omega
    | succ m ih =>
      intro k hk
      unfold digits
      split
      · omega
      · have := ih (k / 128) (by rw [Nat.div_lt_iff_lt_mul (by omega)]; rw [Nat.pow_succ] at hk; exact hk)
        omega
  have h1 : 1 ≤ digits n := by unfold digits; split <;> omega
  exact ⟨h1, key 9 n (by simpa using Nat.lt_trans h (by simp : 18446744073709551616 < 1180591620717411303424))⟩
theorem turned_lt {n : Int} (h : -9223372036854775808 ≤ n ∧ n ≤ 9223372036854775807) : turned n < 18446744073709551616 := by
  unfold turned; split <;> omega
theorem sizeL_append (a b : List PVal) : sizeL (a ++ b) = sizeL a + sizeL b := by
  induction a with
  | nil => simp [sizeL]
  | cons x r ih => simp only [List.cons_append, sizeL, ih]; omega
theorem sizeL_succ {l : List PVal} {i : Nat} {x : PVal} (h : l[i]? = some x) : sizeL (l.take (i + 1)) = sizeL (l.take i) + x.size := by
  rw [take_succ_of h, sizeL_append]; simp [sizeL]
theorem sizeL_take_le (l : List PVal) (i : Nat) : sizeL (l.take i) ≤ sizeL l := by
  conv => rhs; rw [← List.take_append_drop i l, sizeL_append]
  omega
theorem namesSize_append (a b : List ByteArray) : namesSize (a ++ b) = namesSize a + namesSize b := by
  induction a with
  | nil => simp [namesSize]
  | cons x r ih => simp only [List.cons_append, namesSize, ih]; omega
theorem namesSize_succ {l : List ByteArray} {i : Nat} {x : ByteArray} (h : l[i]? = some x) : namesSize (l.take (i + 1)) = namesSize (l.take i) + (digits x.size + x.size) := by
  rw [take_succ_of h, namesSize_append]; simp [namesSize]
theorem namesSize_take_le (l : List ByteArray) (i : Nat) : namesSize (l.take i) ≤ namesSize l := by
  conv => rhs; rw [← List.take_append_drop i l, namesSize_append]
  omega
theorem namesSize_le (D : Nat) (fn : List ByteArray) (h : ∀ x ∈ fn, x.size + 10 ≤ D) (hl : ∀ x ∈ fn, x.size ≤ 140737488355328) : namesSize fn ≤ fn.length * D := by
  induction fn with
  | nil => simp [namesSize]
  | cons a r ih =>
    have h1 := h a (by simp)
    have h2 := ih (fun x hx => h x (by simp [hx])) (fun x hx => hl x (by simp [hx]))
    have h4 := hl a (by simp)
    have h3 := digits_le a.size (by omega)
    simp only [namesSize, List.length_cons, Nat.succ_mul]; omega
theorem sizeL_le (C D : Nat) (l : List PVal) (h : ∀ x ∈ l, x.size + D ≤ x.nodes * C) : sizeL l + l.length * D ≤ nodesL l * C := by
  induction l with
  | nil => simp [sizeL]
  | cons x r ih =>
    have h1 := h x (by simp)
    have h2 := ih (fun y hy => h y (by simp [hy]))
    simp only [sizeL, nodesL, Nat.add_mul, List.length_cons, Nat.one_mul]
    omega
/-- An int64's range. -/
def I64 (n : Int) : Prop := -9223372036854775808 ≤ n ∧ n ≤ 9223372036854775807
/-- So long at the most. -/
def Lim (n : Nat) : Prop := n ≤ 140737488355328
-- numbers in an int64's range, texts below the reach, as many names as values: all through
mutual
def PVal.fits : PVal → Prop
  | .mk k n s l fn fv => I64 k ∧ I64 n ∧ Lim s.size ∧ (∀ x ∈ fn, Lim x.size) ∧ fn.length = fv.length ∧ Lim l.length ∧ Lim fv.length ∧ fitsL l ∧ fitsL fv
def fitsL : List PVal → Prop
  | [] => True
  | x :: r => x.fits ∧ fitsL r
end
theorem fitsL_iff (l : List PVal) : fitsL l ↔ ∀ x ∈ l, x.fits := by
  induction l with
  | nil => simp [fitsL]
  | cons x r ih => simp [fitsL, ih]
theorem size_fits' (C D : Nat) (hD : 140737488355338 ≤ D) (hC : D + D + 11 ≤ C) (v : PVal) : v.fits → v.size + D ≤ v.nodes * C := by
  induction v using PVal.ind with
  | h k n s l fn fv hl hf =>
    intro h
    simp only [PVal.fits, fitsL_iff, I64, Lim] at h
    obtain ⟨hk, hn, hs, hfn, hlen, hll, hfl, hL, hF⟩ := h
    have h1 := sizeL_le C D l (fun x hx => hl x hx (hL x hx))
    have h2 := sizeL_le C D fv (fun x hx => hf x hx (hF x hx))
    have h3 := namesSize_le D fn (fun x hx => by have := hfn x hx; omega) hfn
    rw [hlen] at h3
    have d1 := digits_le (turned n) (turned_lt hn)
    have d2 := digits_le s.size (by omega)
    have d3 := digits_le l.length (by omega)
    have d4 := digits_le fv.length (by omega)
    simp only [PVal.size, PVal.nodes, Nat.add_mul, Nat.one_mul]
    split
    · omega
    split
    · omega
    split
    · omega
    split
    · omega
    split
    · omega
    omega
theorem size_fits (v : PVal) (h : v.fits) (hn : v.nodes ≤ 20000) : v.size ≤ 9000000000000000000 := by
  have h1 := size_fits' 281474976710700 140737488355338 (Nat.le_refl _) (by omega) v h
  have h2 : v.nodes * 281474976710700 ≤ 20000 * 281474976710700 := Nat.mul_le_mul_right _ hn
  exact Nat.le_trans (Nat.le_trans (Nat.le_add_right _ _) h1) (Nat.le_trans h2 (by simp))
end Go.Proofs.YtdjegpmjhfbamaaDoor
