/-
  Walks: the makers of values in the statements of layer 2.
  Plain: how good the made values are; walk: awake.
  Walk: the law ValueLimits.
-/
import Derived.Test.YtckdgmjekfpcjaaDoorMgVal10
import Derived.Test.YtckdgmjekfpcjaaDoorMgVal8
import Derived.Test.YtckdgmjekfpcjaaDoorMgHel
import Derived.Handy
import Derived.Lib.ValidLaws
namespace Go.Proofs.YtckdgmjekfpcjaaDoor
open Go.RowKit Go.Proofs

def flatCs (k n : Int) (s : ByteArray) : List Value := [.int .i64 k, .int .i64 n, .string s, .slice none 0 0, .slice none 0 0]
theorem rd_flat (w : World) (S : Nat → Prop) {k n : Int} {s : ByteArray} (hk : I64 k) (hn : I64 n) (hs : s.size ≤ 140737488355328) : Rd w S (.mk k n s [] [] []) (flatCs k n s) :=
  .mk (la := none) (fa := none) (lc := 0) (fc := 0) (fun _ => []) (fun _ => []) hk hn hs (fun _ h => by cases h) rfl (by decide) (by decide) (by decide) (by decide) (.inl rfl) (fun i x h => by simp at h) (.inl rfl) (fun i x h => by simp at h)

theorem int_calls (n : Int) (w : World) : Calls Tryd.prog 12 #[.int .i64 n] w fun e w' => e = .returned (.agg #[.int .i64 3, .int .i64 n, .string ByteArray.empty, .slice none 0 0, .slice none 0 0]) ∧ Below w.heap.size w w' := by
  go_enter Tryd.func12, Tryd.ntmps12
  go_wp2_with fail
  go_returns
  exact ⟨rfl, below_new _ _⟩
theorem text_calls (s : ByteArray) (w : World) : Calls Tryd.prog 13 #[.string s] w fun e w' => e = .returned (.agg #[.int .i64 4, .int .i64 0, .string s, .slice none 0 0, .slice none 0 0]) ∧ Below w.heap.size w w' := by
  go_enter Tryd.func13, Tryd.ntmps13
  go_wp2_with fail
  go_returns
  exact ⟨rfl, below_new _ _⟩
/-- A list of a slice. -/
theorem rd_list {w : World} {S : Nat → Prop} {l : List PVal} {la : Option Addr} {c : Nat} (h : RdL w S l (.slice la l.length c)) :
    Rd w S (.mk 5 0 ByteArray.empty l [] []) [.int .i64 5, .int .i64 0, .string ByteArray.empty, .slice la l.length c, .slice none 0 0] := by
  obtain ⟨la', cap', cs, hv, h1, h2, h3, h4⟩ := h
  injection hv with e1 e2 e3
  subst e1 e3
  exact .mk (fa := none) (fc := 0) cs (fun _ => []) (by decide) (by decide) (by decide) (fun _ h => by cases h) rfl h1 h2 (by decide) (by decide) h3 h4 (.inl rfl) (fun i x h => by simp at h)
/-- A slice of one value that was just laid. -/
theorem rdL_one {w w' : World} {S : Nat → Prop} {V : PVal} {cs : List Value} {t : TypeId} (h : Rd w S V cs) (hb : Below (w.alloc (.cells cs.toArray t)).heap.size (w.alloc (.cells cs.toArray t)) w') (hS : ∀ b, S b → b < w.heap.size) :
    RdL w' (fun b => S b ∨ b = w.heap.size) [V] (.slice (some ⟨w.heap.size, 0, none⟩) 1 1) := by
  refine ⟨some ⟨w.heap.size, 0, none⟩, 1, fun _ => cs, rfl, Nat.le_refl _, by simp, .inr ⟨w.heap.size, 0, rfl, .inr rfl, fun i hi j v hv => ?_⟩, fun i x hx => ?_⟩
  · have hi0 : i = 0 := by simpa using hi
    subst hi0
    rw [show 0 + 0 * 5 + j = j by omega]
    exact box_cell hb (by simpa using hv)
  · have hi0 : i = 0 := by
      have := (List.getElem?_eq_some_iff.1 hx).1
      simpa using this
    subst hi0
    have hx' : V = x := by simpa using hx
    subst hx'
    exact h.keep (fun _ h => .inl h) (fun b hb' => by
      rw [hb.block b (by have := hS b hb'; simp; omega)]
      exact Below.heap_alloc _ _ _ (hS b hb'))
/-- A Doc of one field that was just laid. -/
theorem rd_doc {w w' : World} {S : Nat → Prop} {V : PVal} {cs : List Value} {nm : ByteArray} {t : TypeId} {g : Nat} (hg : g = w.heap.size) (h : Rd w S V cs) (hnm : nm.size ≤ 140737488355328)
    (hb : Below (w.alloc (.cells ((.string nm : Value) :: cs).toArray t)).heap.size (w.alloc (.cells ((.string nm : Value) :: cs).toArray t)) w') (hS : ∀ b, S b → b < w.heap.size) :
    Rd w' (fun b => S b ∨ b = w.heap.size) (.mk 6 0 ByteArray.empty [] [nm] [V]) [.int .i64 6, .int .i64 0, .string ByteArray.empty, .slice none 0 0, .slice (some ⟨g, 0, none⟩) 1 1] := by
  subst hg
  refine .mk (la := none) (lc := 0) (fun _ => []) (fun _ => cs) (by decide) (by decide) (by decide) (fun x hx => ?_) rfl (by decide) (by decide) (by simp) (by simp) (.inl rfl) (fun i x h => by simp at h)
    (.inr ⟨w.heap.size, 0, rfl, .inr rfl, fun i hi j v hv => ?_⟩) (fun i x hx => ?_)
  · have : x = nm := by simpa using hx
    subst this; exact hnm
  · have hi0 : i = 0 := by simpa using hi
    subst hi0
    rw [show 0 + 0 * 6 + j = j by omega]
    exact box_cell hb (by simpa using hv)
  · have hi0 : i = 0 := by
      have := (List.getElem?_eq_some_iff.1 hx).1
      simpa using this
    subst hi0
    have hx' : V = x := by simpa using hx
    subst hx'
    exact h.keep (fun _ h => .inl h) (fun b hb' => by
      rw [hb.block b (by have := hS b hb'; simp; omega)]
      exact Below.heap_alloc _ _ _ (hS b hb'))


theorem OwnL.ge {w : World} {S : Nat → Prop} {base e : Nat} {xs : List PVal} {v : Value} (h : OwnL w S base e xs v) (b : Nat) (hb : v.ownBlock = some b) : base ≤ b := by
  obtain ⟨css, _, ho, _⟩ := h
  exact (ho.lt b hb).1
def nullV : PVal := .mk 1 0 ByteArray.empty [] [] []
def longS : Nat → ByteArray
  | 0 => ByteArray.empty
  | j + 1 => longS j ++ ⟨#[110]⟩
theorem longS_size : ∀ j, (longS j).size = j
  | 0 => rfl
  | j + 1 => by rw [longS, ByteArray.size_append, longS_size j]; rfl
theorem longS_list : ∀ j, (longS j).data.toList = List.replicate j 110
  | 0 => rfl
  | j + 1 => by rw [longS, ByteArray.data_append, Array.toList_append, longS_list j, List.replicate_succ']
end Go.Proofs.YtckdgmjekfpcjaaDoor

namespace Go.Proofs.YtckdgmjekfpcjaaDoor
open Go.RowKit Go.Proofs

theorem utf_empty : utf ByteArray.empty = true := rfl
theorem digits_small {n : Nat} (h : n < 128) : digits n = 1 := by rw [digits, if_pos h]
theorem validD_rep : ∀ k, Lib.validD (List.replicate k 110) = true
  | 0 => rfl
  | k + 1 => by rw [List.replicate_succ, Lib.validD_cons _ _ (by decide), validD_rep k]
theorem utf_long (k : Nat) : utf (longS k) = true := by rw [utf, longS_list, validD_rep]

def intV (n : Int) : PVal := .mk 3 n ByteArray.empty [] [] []
def textV (s : ByteArray) : PVal := .mk 4 0 s [] [] []
def listV (l : List PVal) : PVal := .mk 5 0 ByteArray.empty l [] []
def docV (nm : ByteArray) (v : PVal) : PVal := .mk 6 0 ByteArray.empty [] [nm] [v]

theorem all_int (p : PVal → Bool) (n : Int) : (intV n).all p = p (intV n) := by simp [intV, PVal.all]
theorem all_text (p : PVal → Bool) (s : ByteArray) : (textV s).all p = p (textV s) := by simp [textV, PVal.all]
theorem all_null (p : PVal → Bool) : nullV.all p = p nullV := by simp [nullV, PVal.all]
theorem all_list (p : PVal → Bool) (l : List PVal) : (listV l).all p = (p (listV l) && l.all (·.all p)) := by simp [listV, PVal.all, allL_eq]
theorem all_doc (p : PVal → Bool) (nm : ByteArray) (v : PVal) : (docV nm v).all p = (p (docV nm v) && v.all p) := by simp [docV, PVal.all, allL]
theorem formed_int (n : Int) : formedB (intV n) = true := by simp [intV, formedB, rising]
theorem formed_null : formedB nullV = true := by simp [nullV, formedB, rising]
theorem formed_text (s : ByteArray) : formedB (textV s) = true := by simp [textV, formedB, rising]
theorem formed_list (l : List PVal) : formedB (listV l) = true := by simp [listV, formedB, rising]
theorem formed_doc (nm : ByteArray) (v : PVal) : formedB (docV nm v) = true := by simp [docV, formedB, rising]
theorem spelled_int (n : Int) : spelledB (intV n) = true := by simp [intV, spelledB, utf_empty]
theorem spelled_null : spelledB nullV = true := by simp [nullV, spelledB, utf_empty]
theorem spelled_text (s : ByteArray) : spelledB (textV s) = utf s := by simp [textV, spelledB]
theorem spelled_list (l : List PVal) : spelledB (listV l) = true := by simp [listV, spelledB, utf_empty]
theorem spelled_doc (nm : ByteArray) (v : PVal) : spelledB (docV nm v) = utf nm := by simp [docV, spelledB, utf_empty]
theorem few_int (n : Int) : fewB (intV n) = true := by simp [intV, fewB]
theorem few_null : fewB nullV = true := by simp [nullV, fewB]
theorem few_text (s : ByteArray) : fewB (textV s) = true := by simp [textV, fewB]
theorem few_list (l : List PVal) : fewB (listV l) = decide (l.length ≤ 32) := by simp [listV, fewB]
theorem few_doc (nm : ByteArray) (v : PVal) : fewB (docV nm v) = decide (1 ≤ nm.size ∧ nm.size ≤ 24) := by simp [docV, fewB]

theorem good_int (n : Int) (hn : I64 n) : (intV n).good = 0 := by
  have h := digits_le (turned n) (turned_lt hn)
  have hs : (intV n).size ≤ 2048 := by simp [intV, PVal.size]; omega
  simp only [PVal.good, all_int, formed_int, spelled_int, few_int]
  rw [show (intV n).depth = 0 by simp [intV, PVal.depth]]
  simp; omega
theorem good_text (s : ByteArray) (hs : s.size < 16384) : (textV s).good = if utf s = false then 11 else if s.size ≤ 2045 then 0 else 2 := by
  have hz : (textV s).size = 1 + (digits s.size + s.size) := by simp [textV, PVal.size]
  have hd : digits s.size = if s.size < 128 then 1 else 2 := by
    rw [digits]
    split
    · rfl
    · rw [digits_small (by omega)]
  simp only [PVal.good, all_text, formed_text, spelled_text, few_text]
  rw [show (textV s).depth = 0 by simp [textV, PVal.depth], hz, hd]
  cases hu : utf s
  · simp
  · simp
    split <;> split <;> split <;> omega
def nest : Nat → PVal
  | 0 => intV 1
  | k + 1 => listV [nest k]
theorem all_nest (p : PVal → Bool) (hl : ∀ l, l.length = 1 → p (listV l) = true) (hi : p (intV 1) = true) : ∀ k, (nest k).all p = true
  | 0 => by rw [nest, all_int, hi]
  | k + 1 => by rw [nest, all_list, hl _ rfl]; simp [all_nest p hl hi k]
theorem depth_nest : ∀ k, (nest k).depth = k
  | 0 => by simp [nest, intV, PVal.depth]
  | k + 1 => by rw [nest, listV, PVal.depth]; simp [depthL, depth_nest k]
theorem size_nest : ∀ k, (nest k).size = 2 + 2 * k
  | 0 => by simp [nest, intV, PVal.size, turned, digits_small]
  | k + 1 => by
    rw [nest, listV, PVal.size]; simp [sizeL, size_nest k, digits_small]; omega
theorem nodes_nest : ∀ k, (nest k).nodes = k + 1
  | 0 => by simp [nest, intV, PVal.nodes, nodesL]
  | k + 1 => by rw [nest, listV, PVal.nodes]; simp [nodesL, nodes_nest k]
theorem good_nest (k : Nat) (hk : k ≤ 100) : (nest k).good = if 8 < k then 3 else 0 := by
  simp only [PVal.good]
  rw [all_nest formedB (fun l _ => formed_list l) (formed_int 1), all_nest spelledB (fun l _ => spelled_list l) (spelled_int 1), all_nest fewB (fun l h => by rw [few_list, h]; rfl) (few_int 1), depth_nest, size_nest]
  simp; omega
theorem all_rep (p : PVal → Bool) (n : Nat) (h : p nullV = true) : (List.replicate n nullV).all (·.all p) = true := by
  simp [List.all_replicate, all_null, h]
theorem depthL_rep : ∀ n, depthL (List.replicate n nullV) = 0
  | 0 => rfl
  | n + 1 => by rw [List.replicate_succ, depthL, depthL_rep n]; simp [nullV, PVal.depth]
theorem sizeL_rep : ∀ n, sizeL (List.replicate n nullV) = n
  | 0 => rfl
  | n + 1 => by rw [List.replicate_succ, sizeL, sizeL_rep n]; simp [nullV, PVal.size]; omega
theorem nodesL_rep : ∀ n, nodesL (List.replicate n nullV) = n
  | 0 => rfl
  | n + 1 => by rw [List.replicate_succ, nodesL, nodesL_rep n]; simp [nullV, PVal.nodes, nodesL]; omega
theorem nodes_many (n : Nat) : (listV (List.replicate n nullV)).nodes = n + 1 := by simp [listV, PVal.nodes, nodesL, nodesL_rep]
theorem good_many (n : Nat) (hn : n ≤ 1000) : (listV (List.replicate n nullV)).good = if 32 < n then 15 else 0 := by
  simp only [PVal.good, all_list, formed_list, spelled_list, few_list, all_rep formedB n formed_null, all_rep spelledB n spelled_null, all_rep fewB n few_null, List.length_replicate]
  rw [show (listV (List.replicate n nullV)).depth = 1 by rw [listV, PVal.depth]; simp [depthL_rep],
    show (listV (List.replicate n nullV)).size = 1 + (digits n + n) by rw [listV, PVal.size]; simp [sizeL_rep]]
  have := digits_le n (by omega)
  by_cases h : n ≤ 32
  · simp [h]; omega
  · simp [h]
theorem good_named (nm : ByteArray) (hn : nm.size ≤ 1000) (hu : utf nm = true) : (docV nm (intV 1)).good = if nm.size < 1 ∨ 24 < nm.size then 15 else 0 := by
  simp only [PVal.good, all_doc, formed_doc, spelled_doc, few_doc, all_int, formed_int, spelled_int, few_int, hu]
  rw [show (docV nm (intV 1)).depth = 1 by rw [docV, PVal.depth]; simp [depthL, intV, PVal.depth],
    show (docV nm (intV 1)).size = 1 + (1 + (digits nm.size + nm.size) + 2) by rw [docV, PVal.size]; simp [sizeL, namesSize, intV, PVal.size, turned, digits_small]]
  have := digits_le nm.size (by omega)
  by_cases h : 1 ≤ nm.size ∧ nm.size ≤ 24
  · rw [if_neg (by omega : ¬ (nm.size < 1 ∨ 24 < nm.size))]
    simp [h]; omega
  · rw [if_pos (by omega : nm.size < 1 ∨ 24 < nm.size)]
    simp [h]

set_option maxRecDepth 100000 in
theorem awake_calls (w : World) (hT : Tabs w) : Calls Tryd.prog 4 #[] w fun e w' => e = .returned (.bool true) ∧ Below w.heap.size w w' := by
  have hT := hid hT
  have hi := hid (fun w => int_calls 1 w)
  have ht := hid (fun w => text_calls ⟨#[97]⟩ w)
  have hc : Hid (∀ w, Tabs w → Calls Tryd.prog 11 #[.agg #[.int .i64 3, .int .i64 1, .string ByteArray.empty, .slice none 0 0, .slice none 0 0], .agg #[.int .i64 4, .int .i64 0, .string ⟨#[97]⟩, .slice none 0 0, .slice none 0 0]] w fun e w' =>
      e = .returned (.tuple #[.int .i64 (-1), .int .i64 0]) ∧ Below w.heap.size w w') := fun w hT => by
    have hc := compare_tells (intV 1) (textV ⟨#[97]⟩) w _ _ (by decide) (by decide) hT (rd_flat _ _ ⟨by decide, by decide⟩ ⟨by decide, by decide⟩ (by decide)) (rd_flat _ _ ⟨by decide, by decide⟩ ⟨by decide, by decide⟩ (by decide))
    rw [good_int 1 ⟨by decide, by decide⟩, good_text _ (by decide), show utf ⟨#[97]⟩ = true from rfl, show cmpV (intV 1) (textV ⟨#[97]⟩) = -1 by simp [intV, textV, cmpV, icmp]] at hc
    exact hc
  have hs : Hid (∀ w, Tabs w → Calls Tryd.prog 8 #[.agg #[.int .i64 3, .int .i64 1, .string ByteArray.empty, .slice none 0 0, .slice none 0 0]] w fun e w' =>
      e = .returned (.tuple #[.int .i64 2, .int .i64 0]) ∧ Below w.heap.size w w') := fun w hT => by
    have hs := size_tells (intV 1) w _ (by decide) hT (rd_flat _ _ ⟨by decide, by decide⟩ ⟨by decide, by decide⟩ (by decide))
    rw [good_int 1 ⟨by decide, by decide⟩, show (intV 1).size = 2 from size_nest 0] at hs
    exact hs
  go_enter Tryd.func4, Tryd.ntmps4
  go_wp2_with fail
  refine (hi.out _).mono ?_
  rintro e w1 ⟨rfl, h1⟩
  go_wp2_with fail
  refine (ht.out _).mono ?_
  rintro e w2 ⟨rfl, h2⟩
  have hb2 := hid (h1.step h2)
  go_wp2_with fail
  refine (hc.out _ (Tabs.stays _ _ hT.out hb2.out)).mono ?_
  rintro e w3 ⟨rfl, h3⟩
  have hb3 := hid (hb2.out.step h3)
  go_wp2_with fail
  refine (hi.out _).mono ?_
  rintro e w4 ⟨rfl, h4⟩
  have hb4 := hid (hb3.out.step h4)
  go_wp2_with fail
  refine (hs.out _ (Tabs.stays _ _ hT.out hb4.out)).mono ?_
  rintro e w5 ⟨rfl, h5⟩
  have hb5 := hid (hb4.out.step h5)
  go_wp2_with fail
  go_ret
  exact ⟨rfl, hb5.out⟩
end Go.Proofs.YtckdgmjekfpcjaaDoor

namespace Go.Proofs.YtckdgmjekfpcjaaDoor
open Go.RowKit Go.Proofs

theorem and_mask (n : Int) (m : Nat) (hm : m < 4611686018427387904) : ∃ k : Nat, bits .and .i64 n m = (k : Int) ∧ k ≤ m := by
  refine ⟨(BitVec.ofInt 64 n &&& BitVec.ofInt 64 m).toNat, ?_, ?_⟩
  · have h : (BitVec.ofInt 64 n &&& BitVec.ofInt 64 m).toNat ≤ m := by
      rw [BitVec.toNat_and]
      refine Nat.le_trans Nat.and_le_right ?_
      rw [BitVec.ofInt_natCast, BitVec.toNat_ofNat]
      exact Nat.mod_le _ _
    show IntKind.i64.wrap ((BitVec.ofInt 64 n &&& BitVec.ofInt 64 m).toNat : Int) = _
    rw [IntKind.wrap_i64]
    generalize (BitVec.ofInt 64 n &&& BitVec.ofInt 64 m).toNat = k at *
    omega
  · rw [BitVec.toNat_and]
    refine Nat.le_trans Nat.and_le_right ?_
    rw [BitVec.ofInt_natCast, BitVec.toNat_ofNat]
    exact Nat.mod_le _ _

theorem box_at {w : World} {g : Nat} {cs : Array Value} {t : TypeId} (h : w.heap[g]? = some (.cells cs t (0, 0))) {j : Nat} {v : Value} (hj : cs[j]? = some v) : w.cell? ⟨g, j, none⟩ = some v := by
  rw [cell_of_row _ _ _ _ _ _ h]; exact hj
theorem box_free {w : World} {g : Nat} {cs : Array Value} {t : TypeId} (h : w.heap[g]? = some (.cells cs t (0, 0))) (j : Nat) : w.frozen? ⟨g, j, none⟩ = false := by
  simp [World.frozen?, h]

theorem row_setCell {w : World} {g j : Nat} {cs : Array Value} {u : Value} {t : TypeId} (h : w.heap[g]? = some (.cells cs t (0, 0))) : (w.setCell ⟨g, j, none⟩ u).heap[g]? = some (.cells (cs.setIfInBounds j u) t (0, 0)) := by
  have hlt := lt_of_block h
  have h' : w.heap[g] = .cells cs t (0, 0) := by simpa [Array.getElem?_eq_getElem hlt] using h
  show (w.heap.modify g _)[g]? = _
  rw [Array.getElem?_eq_getElem (by simpa using hlt), Array.getElem_modify_self, h']
  rfl
/-- Five cells of a block set. -/
def set5 (w : World) (g : Nat) (u0 u1 u2 u3 u4 : Value) : World :=
  ((((w.setCell ⟨g, 0, none⟩ u0).setCell ⟨g, 1, none⟩ u1).setCell ⟨g, 2, none⟩ u2).setCell ⟨g, 3, none⟩ u3).setCell ⟨g, 4, none⟩ u4
theorem set5_box {w : World} {g : Nat} {v0 v1 v2 v3 v4 u0 u1 u2 u3 u4 : Value} {t : TypeId} (h : w.heap[g]? = some (.cells #[v0, v1, v2, v3, v4] t (0, 0))) :
    (set5 w g u0 u1 u2 u3 u4).heap[g]? = some (.cells #[u0, u1, u2, u3, u4] t (0, 0)) :=
  row_setCell (row_setCell (row_setCell (row_setCell (row_setCell h))))
theorem set5_size (w : World) (g : Nat) (u0 u1 u2 u3 u4 : Value) : (set5 w g u0 u1 u2 u3 u4).heap.size = w.heap.size := by simp [set5, World.setCell]
theorem set5_below {B g : Nat} {a w : World} (h : Below B a w) (hg : B ≤ g) (u0 u1 u2 u3 u4 : Value) : Below B a (set5 w g u0 u1 u2 u3 u4) :=
  ((((h.setCell (p := ⟨g, 0, none⟩) hg u0).setCell (p := ⟨g, 1, none⟩) hg u1).setCell (p := ⟨g, 2, none⟩) hg u2).setCell (p := ⟨g, 3, none⟩) hg u3).setCell (p := ⟨g, 4, none⟩) hg u4
theorem set5_other (w : World) (g : Nat) (u0 u1 u2 u3 u4 : Value) {b : Nat} (h : b ≠ g) : (set5 w g u0 u1 u2 u3 u4).heap[b]? = w.heap[b]? := by
  unfold set5
  rw [Below.heap_setCell _ _ _ _ h, Below.heap_setCell _ _ _ _ h, Below.heap_setCell _ _ _ _ h, Below.heap_setCell _ _ _ _ h, Below.heap_setCell _ _ _ _ h]

end Go.Proofs.YtckdgmjekfpcjaaDoor
