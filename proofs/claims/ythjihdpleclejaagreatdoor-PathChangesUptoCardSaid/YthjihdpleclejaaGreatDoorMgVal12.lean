/-
  Walks: the makers of values in the statements of layer 2.
  Plain: how good the made values are; walk: awake.
  Walk: the law ValueLimits.
-/
import Derived.Test.YthjihdpleclejaaGreatDoorMgVal8
import Derived.Test.YthjihdpleclejaaGreatDoorMgQuiet
import Derived.Handy
import Derived.Lib.ValidLaws
namespace Go.Proofs.YthjihdpleclejaaGreatDoor
open Go.RowKit Go.Proofs
def flatCs (k n : Int) (s : ByteArray) : List Value := [.int .i64 k, .int .i64 n, .string s, .slice none 0 0, .slice none 0 0]
theorem rd_flat (w : World) (S : Nat → Prop) {k n : Int} {s : ByteArray} (hk : I64 k) (hn : I64 n) (hs : s.size ≤ 140737488355328) : Rd w S (.mk k n s [] [] []) (flatCs k n s) :=
 .mk (la := none) (fa := none) (lc := 0) (fc := 0) (fun _ => []) (fun _ => []) hk hn hs (fun _ h => by cases h) rfl (by decide) (by decide) (by decide) (by decide) (.inl rfl) (fun i x h => by simp at h) (.inl rfl) (fun i x h => by simp at h)
theorem int_calls (n : Int) (w : World) : Calls Tryz.prog 20 #[.int .i64 n] w fun e w' => e = .returned (.agg #[.int .i64 3, .int .i64 n, .string ByteArray.empty, .slice none 0 0, .slice none 0 0]) ∧ Below w.heap.size w w' := by
 go_enter Tryz.func20, Tryz.ntmps20
 go_wp2_with fail
 go_returns
 exact ⟨rfl, below_new _ _⟩
theorem text_calls (s : ByteArray) (w : World) : Calls Tryz.prog 24 #[.string s] w fun e w' => e = .returned (.agg #[.int .i64 4, .int .i64 0, .string s, .slice none 0 0, .slice none 0 0]) ∧ Below w.heap.size w w' := by
 go_enter Tryz.func24, Tryz.ntmps24
 go_wp2_with fail
 go_returns
 exact ⟨rfl, below_new _ _⟩
theorem list_calls (la : Option Addr) (n c : Nat) (w : World) : Calls Tryz.prog 42 #[.slice la n c] w fun e w' =>
  e = .returned (.agg #[.int .i64 5, .int .i64 0, .string ByteArray.empty, .slice la n c, .slice none 0 0]) ∧ Below w.heap.size w w' := by
 go_enter Tryz.func42, Tryz.ntmps42
 go_wp2_with fail
 go_returns
 exact ⟨rfl, below_new _ _⟩
theorem rd_doc {w w' : World} {S : Nat → Prop} {V : PVal} {cs : List Value} {nm : ByteArray} {t : TypeId} {g : Nat} (hg : g = w.heap.size) (h : Rd w S V cs) (hnm : nm.size ≤ 140737488355328)
  (hb : Below (w.alloc (.cells ((.string nm : Value) :: cs).toArray t)).heap.size (w.alloc (.cells ((.string nm : Value) :: cs).toArray t)) w') (hS : ∀ b, S b → b < w.heap.size) :
  Rd w' (fun b => S b ∨ b = w.heap.size) (.mk 6 0 ByteArray.empty [] [nm] [V]) [.int .i64 6, .int .i64 0, .string ByteArray.empty, .slice none 0 0, .slice (some ⟨g, 0, none⟩) 1 1] := by
 subst hg
 refine .mk (la := none) (lc := 0) (fun _ => []) (fun _ => cs) (by decide) (by decide) (by decide) (fun x hx => ?_) rfl (by decide) (by decide) (by simp) (by simp) (.inl rfl) (fun i x h => by simp at h)
  (.inr ⟨w.heap.size, 0, rfl, .inr rfl, fun i hi j v hv => ?_⟩) (fun i x hx => ?_)
 ·have : x = nm := by simpa using hx
  subst this; exact hnm
 ·have hi0 : i = 0 := by simpa using hi
  subst hi0
  rw [show 0 + 0 * 6 + j = j by omega]
  exact box_cell hb (by simpa using hv)
 ·have hi0 : i = 0 := by
   have := (List.getElem?_eq_some_iff.1 hx).1
   simpa using this
  subst hi0
  have hx' : V = x := by simpa using hx
  subst hx'
  exact h.keep (fun _ h => .inl h) (fun b hb' => by
   rw [hb.block b (by have := hS b hb'; simp; omega)]
   exact Below.heap_alloc _ _ _ (hS b hb'))
theorem doc_calls (nm : ByteArray) (V : PVal) (S : Nat → Prop) (w : World) (cs : List Value) (hnm : nm.size ≤ 140737488355328) (hV : Rd w S V cs) (hS : ∀ b, S b → b < w.heap.size) : Calls Tryz.prog 43 #[.string nm, .agg cs.toArray] w fun e w' =>
  ∃ fa c, e = .returned (.agg #[.int .i64 6, .int .i64 0, .string ByteArray.empty, .slice none 0 0, .slice fa 1 c]) ∧ Rd w' (fun b => S b ∨ (w.heap.size ≤ b ∧ b < w'.heap.size)) (.mk 6 0 ByteArray.empty [] [nm] [V]) [.int .i64 6, .int .i64 0, .string ByteArray.empty, .slice none 0 0, .slice fa 1 c] ∧ Below w.heap.size w w' := by
 have hV0 := hid hV
 have hS := hid hS
 obtain ⟨k, n, s, l, fn, fv⟩ := V
 obtain ⟨la, lc, fa, fc, rfl, _⟩ := hV.inv
 clear hV
 go_enter Tryz.func43, Tryz.ntmps43
 go_wp2_with fail
 go_returns
 have hb := (below_new w (.cells #[.int .i64 k, .int .i64 n, .string s, .slice la l.length lc, .slice fa fv.length fc] 25)).step (below_new _ (.cells #[.int .i64 6, .int .i64 0, .string ByteArray.empty, .slice none 0 0, .slice (some ⟨w.heap.size + 1 + 1, 0, none⟩) 1 1] 25))
 have hsz := hb.size
 refine ⟨_, _, rfl, (rd_doc (by simp) (hV0.out.keep (S' := S) (fun _ h => h) (fun b h => hb.block b (hS.out b h))) hnm (Below.refl _ _) (fun b h => Nat.lt_of_lt_of_le (hS.out b h) hsz)).keep (fun b h => ?_) (fun _ _ => rfl), hb.step (below_new _ _)⟩
 rcases h with h | h
 ·exact .inl h
 ·right
  simp at h ⊢
  omega
end Go.Proofs.YthjihdpleclejaaGreatDoor
namespace Go.Proofs.YthjihdpleclejaaGreatDoor
open Go.RowKit Go.Proofs
theorem utf_empty : utf ByteArray.empty = true := rfl
theorem digits_small {n : Nat} (h : n < 128) : digits n = 1 := by rw [digits, if_pos h]
def intV (n : Int) : PVal := .mk 3 n ByteArray.empty [] [] []
def textV (s : ByteArray) : PVal := .mk 4 0 s [] [] []
def listV (l : List PVal) : PVal := .mk 5 0 ByteArray.empty l [] []
def docV (nm : ByteArray) (v : PVal) : PVal := .mk 6 0 ByteArray.empty [] [nm] [v]
theorem all_list (p : PVal → Bool) (l : List PVal) : (listV l).all p = (p (listV l) && l.all (·.all p)) := by simp [listV, PVal.all, allL_eq]
theorem formed_list (l : List PVal) : formedB (listV l) = true := by simp [listV, formedB, rising]
theorem spelled_list (l : List PVal) : spelledB (listV l) = true := by simp [listV, spelledB, utf_empty]
theorem few_list (l : List PVal) : fewB (listV l) = decide (l.length ≤ 32) := by simp [listV, fewB]
end Go.Proofs.YthjihdpleclejaaGreatDoor
namespace Go.Proofs.YthjihdpleclejaaGreatDoor
open Go.RowKit Go.Proofs
theorem box_at {w : World} {g : Nat} {cs : Array Value} {t : TypeId} (h : w.heap[g]? = some (.cells cs t (0, 0))) {j : Nat} {v : Value} (hj : cs[j]? = some v) : w.cell? ⟨g, j, none⟩ = some v := by
 rw [cell_of_row _ _ _ _ _ _ h]; exact hj
theorem box_free {w : World} {g : Nat} {cs : Array Value} {t : TypeId} (h : w.heap[g]? = some (.cells cs t (0, 0))) (j : Nat) : w.frozen? ⟨g, j, none⟩ = false := by
 simp [World.frozen?, h]
theorem row_setCell {w : World} {g j : Nat} {cs : Array Value} {u : Value} {t : TypeId} (h : w.heap[g]? = some (.cells cs t (0, 0))) : (w.setCell ⟨g, j, none⟩ u).heap[g]? = some (.cells (cs.setIfInBounds j u) t (0, 0)) := by
 have hlt := lt_of_block h
 have h' : w.heap[g] = .cells cs t (0, 0) := by simpa [Array.getElem?_eq_getElem hlt] using h
 show (w.heap.modify g _)[g]? = _
 rw [Array.getElem?_eq_getElem (by simpa using hlt), Array.getElem_modify_self, h']
 rfl
def set5 (w : World) (g : Nat) (u0 u1 u2 u3 u4 : Value) : World :=
 ((((w.setCell ⟨g, 0, none⟩ u0).setCell ⟨g, 1, none⟩ u1).setCell ⟨g, 2, none⟩ u2).setCell ⟨g, 3, none⟩ u3).setCell ⟨g, 4, none⟩ u4
theorem set5_box {w : World} {g : Nat} {v0 v1 v2 v3 v4 u0 u1 u2 u3 u4 : Value} {t : TypeId} (h : w.heap[g]? = some (.cells #[v0, v1, v2, v3, v4] t (0, 0))) :
  (set5 w g u0 u1 u2 u3 u4).heap[g]? = some (.cells #[u0, u1, u2, u3, u4] t (0, 0)) :=
 row_setCell (row_setCell (row_setCell (row_setCell (row_setCell h))))
theorem set5_size (w : World) (g : Nat) (u0 u1 u2 u3 u4 : Value) : (set5 w g u0 u1 u2 u3 u4).heap.size = w.heap.size := by simp [set5, World.setCell]
theorem set5_below {B g : Nat} {a w : World} (h : Below B a w) (hg : B ≤ g) (u0 u1 u2 u3 u4 : Value) : Below B a (set5 w g u0 u1 u2 u3 u4) :=
 ((((h.setCell (p := ⟨g, 0, none⟩) hg u0).setCell (p := ⟨g, 1, none⟩) hg u1).setCell (p := ⟨g, 2, none⟩) hg u2).setCell (p := ⟨g, 3, none⟩) hg u3).setCell (p := ⟨g, 4, none⟩) hg u4
theorem set5_other (w : World) (g : Nat) (u0 u1 u2 u3 u4 : Value) {b : Nat} (h : b ≠ g) : (set5 w g u0 u1 u2 u3 u4).heap[b]? = w.heap[b]? := by
 unfold set5
 rw [Below.heap_setCell _ _ _ _ h, Below.heap_setCell _ _ _ _ h, Below.heap_setCell _ _ _ _ h, Below.heap_setCell _ _ _ _ h, Below.heap_setCell _ _ _ _ h]
end Go.Proofs.YthjihdpleclejaaGreatDoor
