/-
  Walk: the law ValueKnown.
-/
import Derived.Test.YtihcegakghmdfaaDoorMgVal16
namespace Go.Proofs.YtihcegakghmdfaaDoor
open Go.RowKit Go.Proofs

def bA : ByteArray := ⟨#[97]⟩
def bB : ByteArray := ⟨#[98]⟩
theorem utf_A : utf bA = true := rfl
theorem utf_B : utf bB = true := rfl
def boolV (n : Int) : PVal := .mk 2 n ByteArray.empty [] [] []
def doc2V : PVal := .mk 6 0 ByteArray.empty [] [bB, bA] [nullV, nullV]
theorem good_bool2 : (boolV 2).good = 4 := by simp [boolV, PVal.good, PVal.all, formedB]
theorem good_doc2 : doc2V.good = 4 := by
  have h : blt bB bA = false := by decide +kernel
  simp [doc2V, PVal.good, PVal.all, formedB, rising, h]
theorem good_text255 : (textV ⟨#[255]⟩).good = 11 := by
  rw [good_text _ (by decide), show utf ⟨#[255]⟩ = false by decide]; rfl
def v8 : PVal := docV bA (listV [intV 1])
def l1 : PVal := listV [intV 1]
def l10 : PVal := listV [intV 1, intV 0]
def lv : PVal := listV [l1, intV 2]
theorem good_v8 : v8.good = 0 ∧ v8.size = 8 := by
  constructor <;> simp [v8, docV, listV, intV, PVal.good, PVal.all, allL, formedB, spelledB, fewB, rising, utf_empty, utf_A, PVal.depth, depthL, PVal.size, sizeL, namesSize, digits_small, turned] <;> simp [bA, digits_small, ByteArray.size]
theorem good_l1 : l1.good = 0 := by
  simp [l1, listV, intV, PVal.good, PVal.all, allL, formedB, spelledB, fewB, rising, utf_empty, PVal.depth, depthL, PVal.size, sizeL, digits_small, turned]
theorem good_l10 : l10.good = 0 := by
  simp [l10, listV, intV, PVal.good, PVal.all, allL, formedB, spelledB, fewB, rising, utf_empty, PVal.depth, depthL, PVal.size, sizeL, digits_small, turned]
theorem bytes_same : ∀ l, Lib.compareBytes l l = 0
  | [] => rfl
  | a :: r => by
    rw [Lib.compareBytes, if_neg (UInt8.lt_irrefl a), if_neg (UInt8.lt_irrefl a), bytes_same r]
theorem scmp_same (a : ByteArray) : scmp a a = 0 := bytes_same _
theorem less_l : cmpV l1 l10 = -1 ∧ cmpV l10 l1 = 1 := by
  constructor <;> simp [l1, l10, listV, intV, cmpV, cmpL, cmpF, icmp, scmp_same, orI]
theorem good_named1 (nm : ByteArray) (n : Int) (hn : I64 n) (hs : nm.size = 1) (hu : utf nm = true) : (docV nm (intV n)).good = 0 := by
  have := digits_le (turned n) (turned_lt hn)
  simp [docV, intV, PVal.good, PVal.all, allL, formedB, spelledB, fewB, rising, utf_empty, hu, hs, PVal.depth, depthL, PVal.size, sizeL, namesSize, digits_small]
  omega
theorem less_d : cmpV (docV bA (intV 2)) (docV bB (intV 1)) = -1 ∧ cmpV (docV bB (intV 1)) (docV bA (intV 2)) = 1 := by
  have h1 : scmp bA bB = -1 := by decide
  have h2 : scmp bB bA = 1 := by decide
  constructor <;> simp [docV, intV, cmpV, cmpL, cmpF, icmp, h1, h2, orI]
theorem size_null : nullV.size = 1 := by simp [nullV, PVal.size]
theorem good_null : nullV.good = 0 := by simp [nullV, PVal.good, PVal.all, formedB, spelledB, fewB, rising, utf_empty, PVal.depth, PVal.size]
theorem size_textA : (textV bA).size = 3 := by simp [textV, PVal.size, bA, digits_small, ByteArray.size]
theorem good_textA : (textV bA).good = 0 := by rw [good_text _ (by decide), utf_A]; rfl
theorem depth_lv : lv.depth = 2 := by simp [lv, l1, listV, intV, PVal.depth, depthL]
theorem count_lv : lv.count = 4 := by simp [lv, l1, listV, intV, PVal.count, countL]
theorem hash_null : mix 14695981039346656037 nullV.enc = 12638152016183539244 := by
  have : nullV.enc = [1] := by simp [nullV, PVal.enc]
  rw [this]; decide +kernel

/-- A flat value's cells. -/
theorem rd_int (w : World) (S : Nat → Prop) {n : Int} (h : I64 n) : Rd w S (intV n) [.int .i64 3, .int .i64 n, .string ByteArray.empty, .slice none 0 0, .slice none 0 0] := rd_flat _ _ ⟨by decide, by decide⟩ h (by decide)
theorem rd_null (w : World) (S : Nat → Prop) : Rd w S nullV [.int .i64 1, .int .i64 0, .string ByteArray.empty, .slice none 0 0, .slice none 0 0] := rd_flat _ _ ⟨by decide, by decide⟩ ⟨by decide, by decide⟩ (by decide)
theorem rd_text (w : World) (S : Nat → Prop) (s : ByteArray) (h : s.size ≤ 140737488355328) : Rd w S (textV s) [.int .i64 4, .int .i64 0, .string s, .slice none 0 0, .slice none 0 0] := rd_flat _ _ ⟨by decide, by decide⟩ ⟨by decide, by decide⟩ h
theorem rd_lists {w : World} {S : Nat → Prop} {l : List PVal} {la : Option Addr} {n c : Nat} (hn : n = l.length) (h : RdL w S l (.slice la n c)) :
    Rd w S (listV l) [.int .i64 5, .int .i64 0, .string ByteArray.empty, .slice la n c, .slice none 0 0] := by
  subst hn
  exact rd_list h
theorem rd_docs {w : World} {S : Nat → Prop} {fn : List ByteArray} {fv : List PVal} {fa : Option Addr} {n c : Nat} (hn : n = fv.length) (h : RdF w S fn fv (.slice fa n c)) :
    Rd w S (.mk 6 0 ByteArray.empty [] fn fv) [.int .i64 6, .int .i64 0, .string ByteArray.empty, .slice none 0 0, .slice fa n c] := by
  subst hn
  obtain ⟨hlen, hfs, fa', cap', cs, hv, h1, h2, h3, h4⟩ := h
  injection hv with e1 e2 e3
  subst e1 e3
  exact .mk (la := none) (lc := 0) (fun _ => []) cs (by decide) (by decide) (by decide) hfs hlen (by decide) (by decide) h1 h2 (.inl rfl) (fun i x h => by simp at h) h3 h4
theorem one_rd {w : World} {S : Nat → Prop} {V : PVal} {c : List Value} (h : Rd w S V c) : ∀ (i : Nat) (x : PVal) (cs : List Value), [V][i]? = some x → [c][i]? = some cs → Rd w S x cs := by
  intro i x cs hx hc
  match i with
  | 0 =>
    simp at hx hc
    subst hx hc
    exact h
  | i + 1 => simp at hx
theorem two_rd {w : World} {S : Nat → Prop} {V V' : PVal} {c c' : List Value} (h : Rd w S V c) (h' : Rd w S V' c') : ∀ (i : Nat) (x : PVal) (cs : List Value), [V, V'][i]? = some x → [c, c'][i]? = some cs → Rd w S x cs := by
  intro i x cs hx hc
  match i with
  | 0 =>
    simp at hx hc
    subst hx hc
    exact h
  | 1 =>
    simp at hx hc
    subst hx hc
    exact h'
  | i + 2 => simp at hx

end Go.Proofs.YtihcegakghmdfaaDoor
