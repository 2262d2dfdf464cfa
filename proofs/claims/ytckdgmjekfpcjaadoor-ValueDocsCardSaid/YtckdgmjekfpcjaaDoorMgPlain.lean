/-
  Plain values, as the document has them, with no program in sight: their parts, depth, count, bytes, what is wrong with them, their order. No condition.
  How values lie in memory: 'Rd w S V cs': the cells cs read as the plain value V, through blocks of which S holds; what keeps a reading. No condition.
  Plain: a value's mass.
  Plain: the order of texts; orders put one behind the other.
-/
import GoSem.Op.String
import Derived.Lib.ValidU
import Derived.Lib.Bytealg
import Derived.WalkKit
import Derived.WideShapes
namespace Go.Proofs.YtckdgmjekfpcjaaDoor

/-- A value: its kind, number, text, list, and a document's names and values. -/
inductive PVal where
  | mk (k n : Int) (s : ByteArray) (l : List PVal) (fn : List ByteArray) (fv : List PVal)

namespace PVal
theorem ind {M : PVal → Prop} (h : ∀ k n s l fn fv, (∀ x ∈ l, M x) → (∀ x ∈ fv, M x) → M (.mk k n s l fn fv)) : ∀ v, M v
  | .mk k n s l fn fv => h k n s l fn fv (fun x _ => ind h x) (fun x _ => ind h x)

def k : PVal → Int | .mk k _ _ _ _ _ => k
def n : PVal → Int | .mk _ n _ _ _ _ => n
def s : PVal → ByteArray | .mk _ _ s _ _ _ => s
def l : PVal → List PVal | .mk _ _ _ l _ _ => l
def fn : PVal → List ByteArray | .mk _ _ _ _ fn _ => fn
def fv : PVal → List PVal | .mk _ _ _ _ _ fv => fv

def parts : PVal → List PVal
  | .mk k _ _ l _ fv => if k = 5 then l else if k = 6 then fv else []
end PVal

mutual
def PVal.depth : PVal → Nat
  | .mk k _ _ l _ fv => if k = 5 then depthL l + 1 else if k = 6 then depthL fv + 1 else 0
def depthL : List PVal → Nat
  | [] => 0
  | x :: r => max x.depth (depthL r)
end
mutual
def PVal.count : PVal → Nat
  | .mk k _ _ l _ fv => if k = 5 then countL l + 1 else if k = 6 then countL fv + 1 else 1
def countL : List PVal → Nat
  | [] => 0
  | x :: r => x.count + countL r
end
-- all that a value holds, whatever its kind
mutual
def PVal.nodes : PVal → Nat
  | .mk _ _ _ l _ fv => nodesL l + nodesL fv + 1
def nodesL : List PVal → Nat
  | [] => 0
  | x :: r => x.nodes + nodesL r
end
mutual
def PVal.all (p : PVal → Bool) : PVal → Bool
  | .mk k n s l fn fv => p (.mk k n s l fn fv) && (if k = 5 then allL p l else if k = 6 then allL p fv else true)
def allL (p : PVal → Bool) : List PVal → Bool
  | [] => true
  | x :: r => x.all p && allL p r
end

theorem allL_eq (p : PVal → Bool) (l : List PVal) : allL p l = l.all (·.all p) := by
  induction l with
  | nil => simp [allL]
  | cons x r ih => simp [allL, ih]
theorem all_parts (p : PVal → Bool) (v : PVal) : v.all p = (p v && v.parts.all (·.all p)) := by
  cases v with
  | mk k n s l fn fv =>
    simp only [PVal.all, PVal.parts, allL_eq]
    by_cases h5 : k = 5 <;> by_cases h6 : k = 6 <;> simp [h5, h6]
theorem depth_parts (v : PVal) : v.depth = if v.k = 5 ∨ v.k = 6 then depthL v.parts + 1 else 0 := by
  cases v with
  | mk k n s l fn fv =>
    simp only [PVal.depth, PVal.parts, PVal.k]
    by_cases h5 : k = 5 <;> by_cases h6 : k = 6 <;> simp [h5, h6]
theorem depth_some {V : PVal} (h : V.k = 5 ∨ V.k = 6) : V.depth = depthL V.parts + 1 := by rw [depth_parts, if_pos h]
theorem count_parts (v : PVal) : v.count = countL v.parts + 1 := by
  cases v with
  | mk k n s l fn fv =>
    simp only [PVal.count, PVal.parts]
    by_cases h5 : k = 5 <;> by_cases h6 : k = 6 <;> simp [h5, h6, countL]

theorem depthL_append (a b : List PVal) : depthL (a ++ b) = max (depthL a) (depthL b) := by
  induction a with
  | nil => simp [depthL]
  | cons x r ih => simp only [List.cons_append, depthL, ih]; omega
theorem countL_append (a b : List PVal) : countL (a ++ b) = countL a + countL b := by
  induction a with
  | nil => simp [countL]
  | cons x r ih => simp only [List.cons_append, countL, ih]; omega
theorem nodesL_append (a b : List PVal) : nodesL (a ++ b) = nodesL a + nodesL b := by
  induction a with
  | nil => simp [nodesL]
  | cons x r ih => simp only [List.cons_append, nodesL, ih]; omega

theorem take_succ_of {α : Type} {l : List α} {i : Nat} {x : α} (h : l[i]? = some x) : l.take (i + 1) = l.take i ++ [x] := by
  rw [List.take_add_one, h]; rfl
theorem depthL_succ {l : List PVal} {i : Nat} {x : PVal} (h : l[i]? = some x) : depthL (l.take (i + 1)) = max (depthL (l.take i)) x.depth := by
  rw [take_succ_of h, depthL_append]; simp [depthL]
theorem countL_succ {l : List PVal} {i : Nat} {x : PVal} (h : l[i]? = some x) : countL (l.take (i + 1)) = countL (l.take i) + x.count := by
  rw [take_succ_of h, countL_append]; simp [countL]
theorem nodesL_succ {l : List PVal} {i : Nat} {x : PVal} (h : l[i]? = some x) : nodesL (l.take (i + 1)) = nodesL (l.take i) + x.nodes := by
  rw [take_succ_of h, nodesL_append]; simp [nodesL]

theorem countL_take_le (l : List PVal) (i : Nat) : countL (l.take i) ≤ countL l := by
  conv => rhs; rw [← List.take_append_drop i l, countL_append]
  omega
theorem depthL_take_le (l : List PVal) (i : Nat) : depthL (l.take i) ≤ depthL l := by
  conv => rhs; rw [← List.take_append_drop i l, depthL_append]
  omega
theorem nodesL_take_le (l : List PVal) (i : Nat) : nodesL (l.take i) ≤ nodesL l := by
  conv => rhs; rw [← List.take_append_drop i l, nodesL_append]
  omega
theorem nodes_pos (v : PVal) : 1 ≤ v.nodes := by cases v; simp [PVal.nodes]
theorem nodesL_length (l : List PVal) : l.length ≤ nodesL l := by
  induction l with
  | nil => simp
  | cons x r ih => have := nodes_pos x; simp only [List.length_cons, nodesL]; omega
theorem nodes_mem {l : List PVal} {x : PVal} (h : x ∈ l) : x.nodes ≤ nodesL l := by
  induction l with
  | nil => cases h
  | cons y r ih =>
    simp only [nodesL]
    rcases List.mem_cons.1 h with rfl | h
    · omega
    · have := ih h; omega
theorem nodes_parts (v : PVal) : nodesL v.parts + 1 ≤ v.nodes := by
  cases v with
  | mk k n s l fn fv =>
    simp only [PVal.parts, PVal.nodes]
    by_cases h5 : k = 5 <;> by_cases h6 : k = 6 <;> simp [h5, h6, nodesL] <;> omega
theorem countL_le_nodesL (l : List PVal) (h : ∀ x ∈ l, x.count ≤ x.nodes) : countL l ≤ nodesL l := by
  induction l with
  | nil => simp [countL, nodesL]
  | cons x r ih =>
    have h1 := h x (by simp)
    have h2 := ih (fun y hy => h y (by simp [hy]))
    simp only [countL, nodesL]; omega
theorem count_le_nodes (v : PVal) : v.count ≤ v.nodes := by
  induction v using PVal.ind with
  | h k n s l fn fv hl hf =>
    have h1 := countL_le_nodesL l hl
    have h2 := countL_le_nodesL fv hf
    simp only [PVal.count, PVal.nodes]
    by_cases h5 : k = 5 <;> by_cases h6 : k = 6 <;> simp [h5, h6] <;> omega
theorem depthL_le_nodesL (l : List PVal) (h : ∀ x ∈ l, x.depth ≤ x.nodes) : depthL l ≤ nodesL l := by
  induction l with
  | nil => simp [depthL]
  | cons x r ih =>
    have h1 := h x (by simp)
    have h2 := ih (fun y hy => h y (by simp [hy]))
    simp only [depthL, nodesL]; omega
theorem depth_le_nodes (v : PVal) : v.depth ≤ v.nodes := by
  induction v using PVal.ind with
  | h k n s l fn fv hl hf =>
    have h1 := depthL_le_nodesL l hl
    have h2 := depthL_le_nodesL fv hf
    simp only [PVal.depth, PVal.nodes]
    by_cases h5 : k = 5 <;> by_cases h6 : k = 6 <;> simp [h5, h6] <;> omega

/-- Go's '<' on strings. -/
def blt (a b : ByteArray) : Bool := Op.bytesLess a.toList b.toList
def scmp (a b : ByteArray) : Int := Lib.compareBytes a.data.toList b.data.toList
def utf (s : ByteArray) : Bool := Lib.validD s.data.toList

def rising : List ByteArray → Bool
  | a :: b :: r => blt a b && rising (b :: r)
  | _ => true

def formedB : PVal → Bool
  | .mk k n s l fn fv =>
    decide (1 ≤ k ∧ k ≤ 6) && decide (k = 2 → n = 0 ∨ n = 1) && decide (k ≠ 2 → k ≠ 3 → n = 0) && decide (k ≠ 4 → s.toList = []) &&
      decide (k ≠ 5 → l.length = 0) && decide (k ≠ 6 → fv.length = 0) && rising fn
def spelledB : PVal → Bool
  | .mk _ _ s _ fn _ => utf s && fn.all utf
def fewB : PVal → Bool
  | .mk _ _ _ l fn fv => decide (l.length ≤ 32) && decide (fv.length ≤ 32) && fn.all fun x => decide (1 ≤ x.size ∧ x.size ≤ 24)

/-- A number's varint. -/
def digits (n : Nat) : Nat := if n < 128 then 1 else digits (n / 128) + 1
def varint (n : Nat) : List UInt8 := if n < 128 then [UInt8.ofNat n] else UInt8.ofNat (n % 128 + 128) :: varint (n / 128)
def turned (n : Int) : Nat := if n < 0 then (-2 * n - 1).toNat else (2 * n).toNat

mutual
def PVal.size : PVal → Nat
  | .mk k n s l fn fv => 1 + (if k = 2 then 1 else if k = 3 then digits (turned n) else if k = 4 then digits s.size + s.size else if k = 5 then digits l.length + sizeL l
      else if k = 6 then digits fv.length + namesSize fn + sizeL fv else 0)
def sizeL : List PVal → Nat
  | [] => 0
  | x :: r => x.size + sizeL r
def namesSize : List ByteArray → Nat
  | [] => 0
  | a :: r => digits a.size + a.size + namesSize r
end

/-- What is wrong with a value: 0: nothing. -/
def PVal.good (v : PVal) : Int :=
  if v.all formedB = false then 4 else if v.all spelledB = false then 11 else if v.all fewB = false then 15 else if 8 < v.depth then 3 else if 2048 < v.size then 2 else 0
theorem digits_le (n : Nat) (h : n < 18446744073709551616) : 1 ≤ digits n ∧ digits n ≤ 10 := by
  have key : ∀ m k, k < 128 ^ (m + 1) → digits k ≤ m + 1 := by
    intro m
    induction m with
    | zero => intro k hk; unfold digits; rw [if_pos (by omega)]; omega
    | succ m ih =>
      intro k hk
      unfold digits
      split
      · omega
      · have := ih (k / 128) (by rw [Nat.div_lt_iff_lt_mul (by omega)]; rw [Nat.pow_succ] at hk; exact hk)
        omega
  have h1 : 1 ≤ digits n := by unfold digits; split <;> omega
  exact ⟨h1, key 9 n (by simpa using Nat.lt_trans h (by simp : 18446744073709551616 < 1180591620717411303424))⟩
theorem turned_lt {n : Int} (h : -9223372036854775808 ≤ n ∧ n ≤ 9223372036854775807) : turned n < 18446744073709551616 := by
  unfold turned; split <;> omega
theorem sizeL_append (a b : List PVal) : sizeL (a ++ b) = sizeL a + sizeL b := by
  induction a with
  | nil => simp [sizeL]
  | cons x r ih => simp only [List.cons_append, sizeL, ih]; omega
theorem sizeL_succ {l : List PVal} {i : Nat} {x : PVal} (h : l[i]? = some x) : sizeL (l.take (i + 1)) = sizeL (l.take i) + x.size := by
  rw [take_succ_of h, sizeL_append]; simp [sizeL]
theorem sizeL_take_le (l : List PVal) (i : Nat) : sizeL (l.take i) ≤ sizeL l := by
  conv => rhs; rw [← List.take_append_drop i l, sizeL_append]
  omega
theorem namesSize_append (a b : List ByteArray) : namesSize (a ++ b) = namesSize a + namesSize b := by
  induction a with
  | nil => simp [namesSize]
  | cons x r ih => simp only [List.cons_append, namesSize, ih]; omega
theorem namesSize_succ {l : List ByteArray} {i : Nat} {x : ByteArray} (h : l[i]? = some x) : namesSize (l.take (i + 1)) = namesSize (l.take i) + (digits x.size + x.size) := by
  rw [take_succ_of h, namesSize_append]; simp [namesSize]
theorem namesSize_take_le (l : List ByteArray) (i : Nat) : namesSize (l.take i) ≤ namesSize l := by
  conv => rhs; rw [← List.take_append_drop i l, namesSize_append]
  omega
theorem namesSize_le (D : Nat) (fn : List ByteArray) (h : ∀ x ∈ fn, x.size + 10 ≤ D) (hl : ∀ x ∈ fn, x.size ≤ 140737488355328) : namesSize fn ≤ fn.length * D := by
  induction fn with
  | nil => simp [namesSize]
  | cons a r ih =>
    have h1 := h a (by simp)
    have h2 := ih (fun x hx => h x (by simp [hx])) (fun x hx => hl x (by simp [hx]))
    have h4 := hl a (by simp)
    have h3 := digits_le a.size (by omega)
    simp only [namesSize, List.length_cons, Nat.succ_mul]; omega
theorem sizeL_le (C D : Nat) (l : List PVal) (h : ∀ x ∈ l, x.size + D ≤ x.nodes * C) : sizeL l + l.length * D ≤ nodesL l * C := by
  induction l with
  | nil => simp [sizeL]
  | cons x r ih =>
    have h1 := h x (by simp)
    have h2 := ih (fun y hy => h y (by simp [hy]))
    simp only [sizeL, nodesL, Nat.add_mul, List.length_cons, Nat.one_mul]
    omega
/-- An int64's range. -/
def I64 (n : Int) : Prop := -9223372036854775808 ≤ n ∧ n ≤ 9223372036854775807
/-- So long at the most. -/
def Lim (n : Nat) : Prop := n ≤ 140737488355328
-- numbers in an int64's range, texts below the reach, as many names as values: all through
mutual
def PVal.fits : PVal → Prop
  | .mk k n s l fn fv => I64 k ∧ I64 n ∧ Lim s.size ∧ (∀ x ∈ fn, Lim x.size) ∧ fn.length = fv.length ∧ Lim l.length ∧ Lim fv.length ∧ fitsL l ∧ fitsL fv
def fitsL : List PVal → Prop
  | [] => True
  | x :: r => x.fits ∧ fitsL r
end
theorem fitsL_iff (l : List PVal) : fitsL l ↔ ∀ x ∈ l, x.fits := by
  induction l with
  | nil => simp [fitsL]
  | cons x r ih => simp [fitsL, ih]
theorem size_fits' (C D : Nat) (hD : 140737488355338 ≤ D) (hC : D + D + 11 ≤ C) (v : PVal) : v.fits → v.size + D ≤ v.nodes * C := by
  induction v using PVal.ind with
  | h k n s l fn fv hl hf =>
    intro h
    simp only [PVal.fits, fitsL_iff, I64, Lim] at h
    obtain ⟨hk, hn, hs, hfn, hlen, hll, hfl, hL, hF⟩ := h
    have h1 := sizeL_le C D l (fun x hx => hl x hx (hL x hx))
    have h2 := sizeL_le C D fv (fun x hx => hf x hx (hF x hx))
    have h3 := namesSize_le D fn (fun x hx => by have := hfn x hx; omega) hfn
    rw [hlen] at h3
    have d1 := digits_le (turned n) (turned_lt hn)
    have d2 := digits_le s.size (by omega)
    have d3 := digits_le l.length (by omega)
    have d4 := digits_le fv.length (by omega)
    simp only [PVal.size, PVal.nodes, Nat.add_mul, Nat.one_mul]
    split
    · omega
    split
    · omega
    split
    · omega
    split
    · omega
    split
    · omega
    omega
theorem size_fits (v : PVal) (h : v.fits) (hn : v.nodes ≤ 20000) : v.size ≤ 9000000000000000000 := by
  have h1 := size_fits' 281474976710700 140737488355338 (Nat.le_refl _) (by omega) v h
  have h2 : v.nodes * 281474976710700 ≤ 20000 * 281474976710700 := Nat.mul_le_mul_right _ hn
  exact Nat.le_trans (Nat.le_trans (Nat.le_add_right _ _) h1) (Nat.le_trans h2 (by simp))
end Go.Proofs.YtckdgmjekfpcjaaDoor

namespace Go.Proofs.YtckdgmjekfpcjaaDoor
open Go.RowKit

/-- A fact kept from the walk. -/
theorem hid {p : Prop} (h : p) : Hid p := h

/-- Rows of cells: from the address on, element i's cells are 'cs i'. -/
def RowAt (w : World) (S : Nat → Prop) (la : Option Addr) (n sz : Nat) (cs : Nat → List Value) : Prop :=
  n = 0 ∨ ∃ b off, la = some ⟨b, off, none⟩ ∧ S b ∧ ∀ i, i < n → ∀ j v, (cs i)[j]? = some v → w.cell? ⟨b, off + i * sz + j, none⟩ = some v

inductive Rd (w : World) (S : Nat → Prop) : PVal → List Value → Prop where
  | mk {k n : Int} {s : ByteArray} {l : List PVal} {fn : List ByteArray} {fv : List PVal} {la fa : Option Addr} {lc fc : Nat} (lcs fcs : Nat → List Value)
    (hk : -9223372036854775808 ≤ k ∧ k ≤ 9223372036854775807) (hn : -9223372036854775808 ≤ n ∧ n ≤ 9223372036854775807)
    (hs : s.size ≤ 140737488355328) (hfs : ∀ x ∈ fn, x.size ≤ 140737488355328) (hlen : fn.length = fv.length)
    (hlc : l.length ≤ lc) (hlm : lc ≤ 9223372036854775807 ∧ l.length ≤ 1759218604441) (hfc : fv.length ≤ fc) (hfm : fc ≤ 9223372036854775807 ∧ fv.length ≤ 1466015503701)
    (hl : RowAt w S la l.length 5 lcs) (hlr : ∀ (i : Nat) (x : PVal), l[i]? = some x → Rd w S x (lcs i))
    (hf : RowAt w S fa fv.length 6 (fun i => .string (fn.getD i ByteArray.empty) :: fcs i)) (hfr : ∀ (i : Nat) (x : PVal), fv[i]? = some x → Rd w S x (fcs i)) :
    Rd w S (.mk k n s l fn fv) [.int .i64 k, .int .i64 n, .string s, .slice la l.length lc, .slice fa fv.length fc]

/-- A slice of values. -/
def RdL (w : World) (S : Nat → Prop) (xs : List PVal) (v : Value) : Prop :=
  ∃ (la : Option Addr) (cap : Nat) (cs : Nat → List Value), v = .slice la xs.length cap ∧ xs.length ≤ cap ∧ (cap ≤ 9223372036854775807 ∧ xs.length ≤ 1759218604441) ∧ RowAt w S la xs.length 5 cs ∧ ∀ (i : Nat) (x : PVal), xs[i]? = some x → Rd w S x (cs i)
/-- A slice of fields. -/
def RdF (w : World) (S : Nat → Prop) (fn : List ByteArray) (fv : List PVal) (v : Value) : Prop :=
  fn.length = fv.length ∧ (∀ x ∈ fn, x.size ≤ 140737488355328) ∧
  ∃ (fa : Option Addr) (cap : Nat) (cs : Nat → List Value), v = .slice fa fv.length cap ∧ fv.length ≤ cap ∧ (cap ≤ 9223372036854775807 ∧ fv.length ≤ 1466015503701) ∧ RowAt w S fa fv.length 6 (fun i => .string (fn.getD i ByteArray.empty) :: cs i) ∧ ∀ (i : Nat) (x : PVal), fv[i]? = some x → Rd w S x (cs i)

def Now (w : World) (b : Nat) : Prop := b < w.heap.size

theorem Rd.len {w : World} {S : Nat → Prop} {V : PVal} {cs : List Value} (h : Rd w S V cs) : cs.length = 5 := by cases h; rfl

theorem Rd.fits {w : World} {S : Nat → Prop} {V : PVal} {cs : List Value} (h : Rd w S V cs) : V.fits := by
  induction h with
  | mk lcs fcs hk hn hs hfs hlen hlc hlm hfc hfm _ _ _ _ ihl ihf =>
    simp only [PVal.fits, fitsL_iff, I64, Lim]
    refine ⟨hk, hn, hs, hfs, hlen, by omega, by omega, fun x hx => ?_, fun x hx => ?_⟩
    · obtain ⟨i, hi⟩ := List.getElem?_of_mem hx
      exact ihl i x hi
    · obtain ⟨i, hi⟩ := List.getElem?_of_mem hx
      exact ihf i x hi

theorem RowAt.keep {w w' : World} {S S' : Nat → Prop} {la : Option Addr} {n sz : Nat} {cs : Nat → List Value} (h : RowAt w S la n sz cs)
    (hS : ∀ b, S b → S' b) (hb : ∀ b, S b → w'.heap[b]? = w.heap[b]?) : RowAt w' S' la n sz cs := by
  rcases h with h | ⟨b, off, rfl, hs, hc⟩
  · exact .inl h
  · exact .inr ⟨b, off, rfl, hS b hs, fun i hi j v hv => (World.cell?_of_block (w := w) (hb b hs)).trans (hc i hi j v hv)⟩

theorem Rd.keep {w w' : World} {S S' : Nat → Prop} (hS : ∀ b, S b → S' b) (hb : ∀ b, S b → w'.heap[b]? = w.heap[b]?) {V : PVal} {cs : List Value} (h : Rd w S V cs) : Rd w' S' V cs := by
  induction h with
  | mk lcs fcs hk hn hs hfs hlen hlc hlm hfc hfm hl _ hf _ ihl ihf => exact .mk lcs fcs hk hn hs hfs hlen hlc hlm hfc hfm (hl.keep hS hb) ihl (hf.keep hS hb) ihf

theorem RdL.keep {w w' : World} {S S' : Nat → Prop} (hS : ∀ b, S b → S' b) (hb : ∀ b, S b → w'.heap[b]? = w.heap[b]?) {xs : List PVal} {v : Value} (h : RdL w S xs v) : RdL w' S' xs v := by
  obtain ⟨la, cap, cs, hv, h1, h2, h3, h4⟩ := h
  exact ⟨la, cap, cs, hv, h1, h2, h3.keep hS hb, fun i x hx => (h4 i x hx).keep hS hb⟩
theorem RdF.keep {w w' : World} {S S' : Nat → Prop} (hS : ∀ b, S b → S' b) (hb : ∀ b, S b → w'.heap[b]? = w.heap[b]?) {fn : List ByteArray} {fv : List PVal} {v : Value} (h : RdF w S fn fv v) : RdF w' S' fn fv v := by
  obtain ⟨h0, h0', la, cap, cs, hv, h1, h2, h3, h4⟩ := h
  exact ⟨h0, h0', la, cap, cs, hv, h1, h2, h3.keep hS hb, fun i x hx => (h4 i x hx).keep hS hb⟩

/-- What is read now is read behind whatever turns nothing of what is there. -/
theorem Rd.later {w w' : World} {V : PVal} {cs : List Value} (h : Rd w (Now w) V cs) (hb : Below w.heap.size w w') : Rd w' (Now w') V cs :=
  h.keep (fun _ hk => Nat.lt_of_lt_of_le hk hb.size) (fun b hk => hb.block b hk)
theorem RdL.later {w w' : World} {xs : List PVal} {v : Value} (h : RdL w (Now w) xs v) (hb : Below w.heap.size w w') : RdL w' (Now w') xs v :=
  h.keep (fun _ hk => Nat.lt_of_lt_of_le hk hb.size) (fun b hk => hb.block b hk)
theorem RdF.later {w w' : World} {fn : List ByteArray} {fv : List PVal} {v : Value} (h : RdF w (Now w) fn fv v) (hb : Below w.heap.size w w') : RdF w' (Now w') fn fv v :=
  h.keep (fun _ hk => Nat.lt_of_lt_of_le hk hb.size) (fun b hk => hb.block b hk)

/-- A value's five cells, and what they lead to. -/
theorem Rd.inv {w : World} {S : Nat → Prop} {k n : Int} {s : ByteArray} {l : List PVal} {fn : List ByteArray} {fv : List PVal} {cs : List Value} (h : Rd w S (.mk k n s l fn fv) cs) :
    ∃ la lc fa fc, cs = [.int .i64 k, .int .i64 n, .string s, .slice la l.length lc, .slice fa fv.length fc] ∧
      (-9223372036854775808 ≤ k ∧ k ≤ 9223372036854775807) ∧ (-9223372036854775808 ≤ n ∧ n ≤ 9223372036854775807) ∧ s.size ≤ 140737488355328 ∧
      l.length ≤ lc ∧ (lc ≤ 9223372036854775807 ∧ l.length ≤ 1759218604441) ∧ fv.length ≤ fc ∧ (fc ≤ 9223372036854775807 ∧ fv.length ≤ 1466015503701) ∧ RdL w S l (.slice la l.length lc) ∧ RdF w S fn fv (.slice fa fv.length fc) := by
  cases h with
  | mk lcs fcs hk hn hs hfs hlen hlc hlm hfc hfm hl hlr hf hfr =>
    exact ⟨_, _, _, _, rfl, hk, hn, hs, hlc, hlm, hfc, hfm, ⟨_, _, lcs, rfl, hlc, hlm, hl, hlr⟩, ⟨hlen, hfs, _, _, fcs, rfl, hfc, hfm, hf, hfr⟩⟩

/-- Element i of a slice of values: where its cells lie, and what they read as. -/
theorem RdL.at_ {w : World} {S : Nat → Prop} {xs : List PVal} {la : Option Addr} {n cap : Nat} (h : RdL w S xs (.slice la n cap)) {i : Nat} {x : PVal} (hx : xs[i]? = some x) :
    ∃ b off cs, la = some ⟨b, off, none⟩ ∧ S b ∧ (∀ j v, cs[j]? = some v → w.cell? ⟨b, off + i * 5 + j, none⟩ = some v) ∧ Rd w S x cs := by
  obtain ⟨la', cap', cs, hv, _, _, h3, h4⟩ := h
  injection hv with e1 e2 e3
  subst e1
  have hi : i < xs.length := (List.getElem?_eq_some_iff.1 hx).1
  rcases h3 with h3 | ⟨b, off, rfl, hs, hc⟩
  · omega
  · exact ⟨b, off, cs i, rfl, hs, hc i hi, h4 i x hx⟩
theorem RdF.at_ {w : World} {S : Nat → Prop} {fn : List ByteArray} {fv : List PVal} {la : Option Addr} {n cap : Nat} (h : RdF w S fn fv (.slice la n cap)) {i : Nat} {x : PVal} {nm : ByteArray} (hn : fn[i]? = some nm) (hx : fv[i]? = some x) :
    ∃ b off cs, la = some ⟨b, off, none⟩ ∧ S b ∧ (∀ j v, (Value.string nm :: cs)[j]? = some v → w.cell? ⟨b, off + i * 6 + j, none⟩ = some v) ∧ Rd w S x cs ∧ nm.size ≤ 140737488355328 := by
  obtain ⟨_, hsz, la', cap', cs, hv, _, _, h3, h4⟩ := h
  injection hv with e1 e2 e3
  subst e1
  have hi : i < fv.length := (List.getElem?_eq_some_iff.1 hx).1
  have hg : fn.getD i ByteArray.empty = nm := by simp [List.getD, hn]
  rcases h3 with h3 | ⟨b, off, rfl, hs, hc⟩
  · omega
  · refine ⟨b, off, cs i, rfl, hs, ?_, h4 i x hx, hsz nm (List.mem_of_getElem? hn)⟩
    have := hc i hi
    simpa only [hg] using this

theorem five {w : World} {b off i sz : Nat} {v0 v1 v2 v3 v4 : Value} (h : ∀ j v, [v0, v1, v2, v3, v4][j]? = some v → w.cell? ⟨b, off + i * sz + j, none⟩ = some v) :
    w.cell? ⟨b, off + i * sz, none⟩ = some v0 ∧ w.cell? ⟨b, off + i * sz + 1, none⟩ = some v1 ∧ w.cell? ⟨b, off + i * sz + 2, none⟩ = some v2 ∧ w.cell? ⟨b, off + i * sz + 3, none⟩ = some v3 ∧ w.cell? ⟨b, off + i * sz + 4, none⟩ = some v4 :=
  ⟨h 0 v0 rfl, h 1 v1 rfl, h 2 v2 rfl, h 3 v3 rfl, h 4 v4 rfl⟩
theorem six {w : World} {b off i sz : Nat} {v0 v1 v2 v3 v4 v5 : Value} (h : ∀ j v, [v0, v1, v2, v3, v4, v5][j]? = some v → w.cell? ⟨b, off + i * sz + j, none⟩ = some v) :
    w.cell? ⟨b, off + i * sz, none⟩ = some v0 ∧ w.cell? ⟨b, off + i * sz + 1, none⟩ = some v1 ∧ w.cell? ⟨b, off + i * sz + 2, none⟩ = some v2 ∧ w.cell? ⟨b, off + i * sz + 3, none⟩ = some v3 ∧ w.cell? ⟨b, off + i * sz + 4, none⟩ = some v4 ∧ w.cell? ⟨b, off + i * sz + 5, none⟩ = some v5 :=
  ⟨h 0 v0 rfl, h 1 v1 rfl, h 2 v2 rfl, h 3 v3 rfl, h 4 v4 rfl, h 5 v5 rfl⟩
theorem _root_.Go.RowKit.Below.step {a w w' : World} (h : Below a.heap.size a w) (k : Below w.heap.size w w') : Below a.heap.size a w' := h.trans (k.mono h.size)
theorem below_new (w : World) (o : Obj) : Below w.heap.size w (w.alloc o) := (Below.refl _ _).alloc (Nat.le_refl _) _

theorem grown_below {w w' : World} (h : w.grownBy w' none) : Below w.heap.size w w' := ⟨h.os, h.tape, h.output, h.size, fun k hk => h.block k hk (by simp)⟩
/-- The cell of a block that was laid, behind whatever turned nothing. -/
theorem box_cell {w w' : World} {cs : Array Value} {t : TypeId} (hb : Below (w.alloc (.cells cs t)).heap.size (w.alloc (.cells cs t)) w') {j : Nat} {v : Value} (h : cs[j]? = some v) :
    w'.cell? ⟨w.heap.size, j, none⟩ = some v := by
  rw [hb.cell (p := ⟨w.heap.size, j, none⟩) (by simp)]
  exact (cell_of_row _ _ _ _ _ _ (heap_alloc_new w _)).trans h

/-- A slice of values of the call's own: its row lies from 'base' on; what the values lead to lies in blocks of which S holds, its own row not among them. -/
def OwnL (w : World) (S : Nat → Prop) (base e : Nat) (xs : List PVal) (v : Value) : Prop :=
  ∃ css : List (List Value), css.length = xs.length ∧ w.ownsRow base e 5 v xs.length css.flatten ∧ (∀ b, S b → v.ownBlock ≠ some b) ∧ ∀ (i : Nat) (x : PVal) (cs : List Value), xs[i]? = some x → css[i]? = some cs → Rd w S x cs

theorem flatten_at {α : Type} (m : Nat) : ∀ (css : List (List α)), (∀ cs ∈ css, cs.length = m) → ∀ (i : Nat) (cs : List α), css[i]? = some cs → ∀ (j : Nat) (v : α), cs[j]? = some v → css.flatten[i * m + j]? = some v
  | [], _, i, cs, h, _, _, _ => by simp at h
  | c :: r, hm, 0, cs, h, j, v, hv => by
    have hc : c = cs := by simpa using h
    subst hc
    have hj : j < c.length := (List.getElem?_eq_some_iff.1 hv).1
    simp only [List.flatten_cons, Nat.zero_mul, Nat.zero_add]
    rw [List.getElem?_append_left hj]; exact hv
  | c :: r, hm, i + 1, cs, h, j, v, hv => by
    have hc : c.length = m := hm c (by simp)
    have ih := flatten_at m r (fun x hx => hm x (by simp [hx])) i cs (by simpa using h) j v hv
    simp only [List.flatten_cons]
    rw [List.getElem?_append_right (by rw [hc, Nat.succ_mul]; omega), show (i + 1) * m + j - c.length = i * m + j by rw [hc, Nat.succ_mul]; omega]
    exact ih

theorem OwnL.nil (w : World) (S : Nat → Prop) (base e : Nat) : OwnL w S base e [] (.slice none 0 0) :=
  ⟨[], rfl, World.ownsRow_nil _ _ _ _, fun _ _ => by simp [Value.ownBlock], fun i x cs h => by simp at h⟩
theorem OwnL.empty {w : World} {S : Nat → Prop} {base e : Nat} {v : Value} (h : w.ownsRow base e 5 v 0 []) (hS : ∀ b, S b → v.ownBlock ≠ some b) : OwnL w S base e [] v :=
  ⟨[], rfl, h, hS, fun i x cs h => by simp at h⟩
theorem OwnL.lt {w : World} {S : Nat → Prop} {base e : Nat} {xs : List PVal} {v : Value} (h : OwnL w S base e xs v) (b : Nat) (hb : v.ownBlock = some b) : b < w.heap.size := by
  obtain ⟨css, _, ho, _⟩ := h
  exact (ho.lt b hb).2
/-- An element's cells, later. -/
theorem cells_later {w w' : World} {b off i sz : Nat} {cs : List Value} (hb : Below w.heap.size w w') (hS : b < w.heap.size) (h : ∀ j v, cs[j]? = some v → w.cell? ⟨b, off + i * sz + j, none⟩ = some v) :
    ∀ j v, cs[j]? = some v → w'.cell? ⟨b, off + i * sz + j, none⟩ = some v := fun j v hv => (hb.cell (p := ⟨b, off + i * sz + j, none⟩) hS).trans (h j v hv)
theorem OwnL.form {w : World} {S : Nat → Prop} {base e : Nat} {xs : List PVal} {v : Value} (h : OwnL w S base e xs v) : ∃ a c, v = .slice a xs.length c ∧ xs.length ≤ c := by
  obtain ⟨css, _, ho, _⟩ := h
  rcases ho.2 with ⟨rfl, h0⟩ | ⟨g, cap, cur, rfl, _, _, hc, _⟩
  · exact ⟨none, 0, by rw [h0], by omega⟩
  · exact ⟨_, cap, rfl, hc⟩

/-- Read as a slice. -/
theorem OwnL.read {w : World} {S S' : Nat → Prop} {base e : Nat} {xs : List PVal} {v : Value} (h : OwnL w S base e xs v) (hS : ∀ b, S b → S' b) (hv : ∀ b, v.ownBlock = some b → S' b) (hn : xs.length ≤ 1759218604441) : RdL w S' xs v := by
  obtain ⟨css, hlen, ho, _, hr⟩ := h
  have h5 : ∀ cs ∈ css, cs.length = 5 := by
    intro cs hcs
    obtain ⟨i, hi⟩ := List.getElem?_of_mem hcs
    have hil : i < xs.length := by rw [← hlen]; exact (List.getElem?_eq_some_iff.1 hi).1
    exact (hr i _ cs (List.getElem?_eq_getElem hil) hi).len
  have hcs : ∀ i, i < xs.length → css[i]? = some (css.getD i []) := by
    intro i hi
    have : i < css.length := by omega
    simp [List.getD, List.getElem?_eq_getElem this]
  rcases ho.2 with ⟨rfl, h0⟩ | ⟨g, cap, cur, rfl, hb, hg, hnc, hcm, hsz, htk⟩
  · have hx : xs = [] := List.eq_nil_of_length_eq_zero h0
    subst hx
    exact ⟨none, 0, fun _ => [], rfl, Nat.le_refl _, by omega, .inl rfl, fun i x hx => by simp at hx⟩
  · refine ⟨some ⟨g, 0, none⟩, cap, fun i => css.getD i [], rfl, hnc, ⟨by unfold maxLen at hcm; omega, hn⟩, .inr ⟨g, 0, rfl, hv g rfl, fun i hi j u hu => ?_⟩, fun i x hx => ?_⟩
    · have h1 := flatten_at 5 css h5 i _ (hcs i hi) j u hu
      have h2 := ho.cells (g := g) rfl _ _ h1
      have h3 : (⟨g, 0, none⟩ : Addr).add (i * 5 + j) = ⟨g, 0 + i * 5 + j, none⟩ := by
        rw [Addr.add]
        split
        · congr 1; omega
        · show (⟨g, 0 + (i * 5 + j), none⟩ : Addr) = ⟨g, 0 + i * 5 + j, none⟩
          rw [Nat.add_assoc]
      rw [h3] at h2; exact h2
    · have hi : i < xs.length := (List.getElem?_eq_some_iff.1 hx).1
      exact (hr i x _ hx (hcs i hi)).keep hS (fun _ _ => rfl)

/-- The world grows: the row stays, and what it leads to. -/
theorem OwnL.keep {w w' : World} {S : Nat → Prop} {base e : Nat} {xs : List PVal} {v : Value} (h : OwnL w S base e xs v) (hb : Below w.heap.size w w') (hS : ∀ b, S b → b < w.heap.size) : OwnL w' S base e xs v := by
  obtain ⟨css, hlen, ho, hne, hr⟩ := h
  refine ⟨css, hlen, ?_, hne, fun i x cs hx hc => (hr i x cs hx hc).keep (fun _ h => h) (fun b hb' => hb.block b (hS b hb'))⟩
  exact ho.kept (row := none) ⟨hb.os, hb.tape, hb.output, hb.size, fun k hk _ => hb.block k hk⟩ (by cases v.ownBlock <;> simp)

/-- What append's law leaves, the value x (whose cells are cs) behind. -/
theorem OwnL.push {w w' : World} {S S' : Nat → Prop} {base e : Nat} {xs : List PVal} {v' : Value} {css : List (List Value)} {x : PVal} {cs : List Value}
    (hlen : css.length = xs.length) (hne' : ∀ b, S' b → v'.ownBlock ≠ some b) (hr : ∀ (i : Nat) (y : PVal) (ys : List Value), xs[i]? = some y → css[i]? = some ys → Rd w S y ys)
    (ho : w'.ownsRow base e 5 v' (xs.length + 1) (css.flatten ++ cs)) (hk : ∀ b, S b → w'.heap[b]? = w.heap[b]?) (hS : ∀ b, S b → S' b) (hx : Rd w' S' x cs) : OwnL w' S' base e (xs ++ [x]) v' := by
  refine ⟨css ++ [cs], by simp [hlen], by simpa using ho, hne', fun i y ys hy hys => ?_⟩
  rcases Nat.lt_trichotomy i xs.length with hlt | heq | hgt
  · rw [List.getElem?_append_left hlt] at hy
    rw [List.getElem?_append_left (by omega)] at hys
    exact (hr i y ys hy hys).keep hS hk
  · subst heq
    rw [List.getElem?_append_right (Nat.le_refl _)] at hy
    rw [List.getElem?_append_right (by omega)] at hys
    simp at hy
    simp [hlen] at hys
    subst hy hys
    exact hx
  · rw [List.getElem?_append_right (by omega)] at hy
    have : i - xs.length ≠ 0 := by omega
    obtain ⟨m, hm⟩ : ∃ m, i - xs.length = m + 1 := ⟨i - xs.length - 1, by omega⟩
    rw [hm] at hy
    simp at hy

theorem cells_new (w : World) (g : Nat) (hg : g = w.heap.size) (cs : List Value) (t : TypeId) : ∀ j u, cs[j]? = some u → (w.alloc (.cells cs.toArray t)).cell? ((⟨g, 0, none⟩ : Addr).add j) = some u := by
  subst hg
  intro j u hu
  have h3 : (⟨w.heap.size, 0, none⟩ : Addr).add j = ⟨w.heap.size, j, none⟩ := by
    rw [Addr.add]
    split
    · congr 1; omega
    · show (⟨w.heap.size, 0 + j, none⟩ : Addr) = _
      rw [Nat.zero_add]
  rw [h3, cell_of_row _ _ _ _ _ _ (heap_alloc_new w _)]
  simpa using hu

theorem Rd.one {w : World} {S : Nat → Prop} {V : PVal} {cs : List Value} (h : Rd w S V cs) : ∀ u ∈ cs, u.oneCell' = true := by
  cases h; simp [Value.oneCell']

/-- append of one value to a slice of the call's own, whose values lead to old memory. -/
theorem wpList_append_val {P : Program} (w : World) {ops : Array Oper} {rest : List Oper} {o : Oper} {a : Act} {Q : Exit → Act → World → Prop} (hgd : o.guard = none) (s x : Operand) (t : TypeId)
    (ho : o.op = .call { callee := .builtin .append, args := #[s, x], argTypes := #[t, t] })
    (base e : Nat) (i : TypeInfo) (z : Value) (ht : P.underlying t = some (.slice e)) (hi : P.info? e = some i) (hz : i.zero = some z) (hsize : i.size = 5) (hby : i.bytes = 80) (hzs : z.cells.size = 5)
    (S : Nat → Prop) (xs : List PVal) (v : Value) (n : Nat) (hn : xs.length = n) (hs : a.eval s = v) (hown : OwnL w S base e xs v)
    (ad : Addr) (c : Nat) (cs : List Value) (X : PVal) (hx : a.eval x = .slice (some ad) 1 c) (hcs : ∀ j u, cs[j]? = some u → w.cell? (ad.add j) = some u) (hX : Rd w S X cs)
    (hlim : n + 1 ≤ 1759218604441) (hS : ∀ b, S b → b < base) (hbase : base ≤ w.heap.size)
    (h : ∀ v' w', OwnL w' S base e (xs ++ [X]) v' → w.grownBy w' v.ownBlock → (∀ b, b < base → w'.heap[b]? = w.heap[b]?) → wpList P ops Q rest (a.put o.dst v') w') : wpList P ops Q (o :: rest) a w := by
  subst hn
  obtain ⟨css, hlen, hor, hne, hr⟩ := hown
  refine wpList_append_own w hgd s x t ho base e i z 5 80 ht hi hz hsize hby hzs (by omega) v xs.length css.flatten hs hor ad 1 c cs hx (by rw [hX.len]) hcs hX.one (by unfold maxLen; omega) (by omega) hbase ?_
  intro v' w' hown' hg _
  have hlow : ∀ b, b < base → w'.heap[b]? = w.heap[b]? := fun b hb => hg.block b (by omega) (fun he => by
    have := (hor.lt b he.symm).1; omega)
  refine h v' w' (OwnL.push hlen (fun b hb he => ?_) hr hown' (fun b hb => hlow b (hS b hb)) (fun _ h => h) (hX.keep (fun _ h => h) (fun b hb => hlow b (hS b hb)))) hg hlow
  have := (hown'.lt b he).1
  have := hS b hb
  omega

end Go.Proofs.YtckdgmjekfpcjaaDoor

namespace Go.Proofs.YtckdgmjekfpcjaaDoor

mutual
/-- What a value weighs: its letters, and a sum for each part and name. -/
def PVal.mass : PVal → Nat
  | .mk _ _ s l fn fv => 32 + s.size + massL l + massF fn + massL fv
def massL : List PVal → Nat
  | [] => 0
  | x :: r => x.mass + massL r
def massF : List ByteArray → Nat
  | [] => 0
  | a :: r => 32 + a.size + massF r
end
theorem mass_mem {l : List PVal} {x : PVal} (h : x ∈ l) : x.mass ≤ massL l := by
  induction l with
  | nil => cases h
  | cons y r ih =>
    simp only [massL]
    rcases List.mem_cons.1 h with rfl | h
    · omega
    · have := ih h; omega
theorem massF_mem {l : List ByteArray} {x : ByteArray} (h : x ∈ l) : x.size ≤ massF l := by
  induction l with
  | nil => cases h
  | cons y r ih =>
    simp only [massF]
    rcases List.mem_cons.1 h with rfl | h
    · omega
    · have := ih h; omega
theorem parts_mass (V : PVal) : ∀ x ∈ V.parts, x.mass ≤ V.mass := by
  obtain ⟨k, n, s, l, fn, fv⟩ := V
  intro x hx
  simp only [PVal.parts] at hx
  simp only [PVal.mass]
  split at hx
  · have := mass_mem hx; omega
  · split at hx
    · have := mass_mem hx; omega
    · cases hx
end Go.Proofs.YtckdgmjekfpcjaaDoor

namespace Go.Proofs.YtckdgmjekfpcjaaDoor

theorem bytes_anti : ∀ a b, Lib.compareBytes b a = - Lib.compareBytes a b
  | [], [] => rfl
  | [], _ :: _ => rfl
  | _ :: _, [] => rfl
  | a :: ar, b :: br => by
    rw [Lib.compareBytes, Lib.compareBytes]
    by_cases h : a < b
    · have h' : ¬ b < a := fun k => UInt8.lt_irrefl _ (UInt8.lt_trans h k)
      simp [h, h']
    · by_cases h' : b < a
      · simp [h, h']
      · simp [h, h', bytes_anti ar br]
theorem bytes_zero : ∀ a b, Lib.compareBytes a b = 0 ↔ a = b
  | [], [] => by simp [Lib.compareBytes]
  | [], _ :: _ => by simp [Lib.compareBytes]
  | _ :: _, [] => by simp [Lib.compareBytes]
  | a :: ar, b :: br => by
    rw [Lib.compareBytes]
    by_cases h : a < b
    · have : a ≠ b := fun e => UInt8.lt_irrefl b (e ▸ h)
      simp [h, this]
    · by_cases h' : b < a
      · have : a ≠ b := fun e => UInt8.lt_irrefl b (by rw [e] at h'; exact h')
        simp [h, h', this]
      · have : a = b := by
          rw [UInt8.lt_iff_toNat_lt] at h h'
          exact UInt8.toNat_inj.1 (by omega)
        simp [this, bytes_zero ar br, UInt8.lt_irrefl]
theorem bytes_trans : ∀ a b c, Lib.compareBytes a b ≤ 0 → Lib.compareBytes b c ≤ 0 → Lib.compareBytes a c ≤ 0 ∧ (Lib.compareBytes a b < 0 → Lib.compareBytes a c < 0) ∧ (Lib.compareBytes b c < 0 → Lib.compareBytes a c < 0)
  | [], [], [], _, _ => by simp [Lib.compareBytes]
  | [], [], _ :: _, _, _ => by simp [Lib.compareBytes]
  | [], _ :: _, [], _, k => by simp [Lib.compareBytes] at k
  | [], _ :: _, _ :: _, _, _ => by simp [Lib.compareBytes]
  | _ :: _, [], _, h, _ => by simp [Lib.compareBytes] at h
  | _ :: _, _ :: _, [], _, k => by simp [Lib.compareBytes] at k
  | a :: ar, b :: br, c :: cr, h, k => by
    have ih := bytes_trans ar br cr
    simp only [Lib.compareBytes, UInt8.lt_iff_toNat_lt] at h k ⊢
    by_cases h1 : a.toNat < b.toNat
    · by_cases k1 : b.toNat < c.toNat
      · simp [show a.toNat < c.toNat by omega]
      · by_cases k2 : c.toNat < b.toNat
        · simp [k1, k2] at k
        · simp [show a.toNat < c.toNat by omega]
    · by_cases h2 : b.toNat < a.toNat
      · simp [h1, h2] at h
      · by_cases k1 : b.toNat < c.toNat
        · simp [show a.toNat < c.toNat by omega]
        · by_cases k2 : c.toNat < b.toNat
          · simp [k1, k2] at k
          · simp [h1, h2] at h
            simp [k1, k2] at k
            simp [h1, h2, k1, k2, show ¬ a.toNat < c.toNat by omega, show ¬ c.toNat < a.toNat by omega]
            exact ih h k
theorem scmp_anti (a b : ByteArray) : scmp b a = - scmp a b := bytes_anti _ _
theorem scmp_zero {a b : ByteArray} : scmp a b = 0 ↔ a = b := by
  unfold scmp; rw [bytes_zero]
  exact ⟨fun h => Go.WideShapes.bytes_inj h, fun h => by rw [h]⟩
theorem scmp_trans {a b c : ByteArray} (h : scmp a b ≤ 0) (k : scmp b c ≤ 0) : scmp a c ≤ 0 ∧ (scmp a b < 0 → scmp a c < 0) ∧ (scmp b c < 0 → scmp a c < 0) := bytes_trans _ _ _ h k

def lex (x y : Int) : Int := if x ≠ 0 then x else y
theorem lex_neg (x y : Int) : lex (-x) (-y) = - lex x y := by unfold lex; split <;> split <;> omega
theorem lex_zero {x y : Int} : lex x y = 0 ↔ x = 0 ∧ y = 0 := by unfold lex; split <;> omega
theorem lex_zero_left (y : Int) : lex 0 y = y := by simp [lex]
theorem lex_zero_right (x : Int) : lex x 0 = x := by unfold lex; split <;> omega
theorem lex_assoc (x y z : Int) : lex (lex x y) z = lex x (lex y z) := by
  unfold lex
  by_cases h : x = 0 <;> by_cases h' : y = 0 <;> simp [h, h']
/-- Three comparisons fit: an order. -/
def Fit (x y z : Int) : Prop := x ≤ 0 → y ≤ 0 → z ≤ 0 ∧ (x < 0 → z < 0) ∧ (y < 0 → z < 0)
theorem lex_nz {x : Int} (h : x ≠ 0) (y : Int) : lex x y = x := by simp [lex, h]
theorem Fit.lex {x y z x' y' z' : Int} (h : Fit x y z) (k : x = 0 → y = 0 → Fit x' y' z') : Fit (lex x x') (lex y y') (lex z z') := by
  intro h1 h2
  have hx : x ≤ 0 := by
    by_cases e : x = 0
    · omega
    · rw [lex_nz e] at h1; exact h1
  have hy : y ≤ 0 := by
    by_cases e : y = 0
    · omega
    · rw [lex_nz e] at h2; exact h2
  obtain ⟨a, b, c⟩ := h hx hy
  by_cases ez : z = 0
  · have ex : x = 0 := by omega
    have ey : y = 0 := by omega
    rw [ex, lex_zero_left] at h1
    rw [ey, lex_zero_left] at h2
    rw [ex, ey, ez, lex_zero_left, lex_zero_left, lex_zero_left]
    exact k ex ey h1 h2
  · rw [lex_nz ez]
    omega
theorem fit_scmp (a b c : ByteArray) : Fit (scmp a b) (scmp b c) (scmp a c) := scmp_trans
theorem fit_zero : Fit 0 0 0 := by simp [Fit]
theorem less_cmp : ∀ a b : List UInt8, Lib.compareBytes a b = if Op.bytesLess a b then -1 else if Op.bytesLess b a then 1 else 0
  | [], [] => by simp [Lib.compareBytes, Op.bytesLess]
  | [], _ :: _ => by simp [Lib.compareBytes, Op.bytesLess]
  | _ :: _, [] => by simp [Lib.compareBytes, Op.bytesLess]
  | x :: a, y :: b => by
    rw [Lib.compareBytes, less_cmp a b]
    simp only [Op.bytesLess]
    by_cases h1 : x < y
    · simp [h1]
    · by_cases h2 : y < x
      · have h3 : ¬ x = y := fun e => by subst e; exact h1 h2
        simp [h1, h2, h3]
      · have h3 : x = y := UInt8.le_antisymm (UInt8.not_lt.1 h2) (UInt8.not_lt.1 h1)
        subst h3
        simp [h1]
theorem scmp_less (a b : ByteArray) : scmp a b = if blt a b then -1 else if blt b a then 1 else 0 := by
  unfold scmp blt
  rw [ByteArray.toList_eq, ByteArray.toList_eq, less_cmp]
theorem str_ne {a b : ByteArray} (h : a ≠ b) : (a.toList == b.toList) = false := by
  rw [ByteArray.toList_eq, ByteArray.toList_eq, beq_eq_false_iff_ne]
  exact fun e => h (Go.WideShapes.bytes_inj e)
end Go.Proofs.YtckdgmjekfpcjaaDoor
