/-
  Walk: the law ValueChain.
  Walk: the law ValueChain, the values not too many.
  Walks: the reference's Strings, More.
-/
import Derived.Test.YtihcegakghmdfaaDoorMgVal18
import Derived.Test.YtihcegakghmdfaaDoorMgVal19
import Derived.Test.YtihcegakghmdfaaDoorMgLaid
import Derived.Deep.RegionHeld3
import Derived.Deep.CutRange
import Derived.Test.YtihcegakghmdfaaDoorMgRef6
namespace Go.Proofs.YtihcegakghmdfaaDoor
open Go.RowKit Go.Proofs

theorem three_cells {w w' : World} {A B C : Array Value} {t u v : TypeId} (hb : Below (((w.alloc (.cells A t)).alloc (.cells B u)).alloc (.cells C v)).heap.size (((w.alloc (.cells A t)).alloc (.cells B u)).alloc (.cells C v)) w') :
    (∀ (j : Nat) (x : Value), A[j]? = some x → w'.cell? ⟨w.heap.size, j, none⟩ = some x) ∧ (∀ (j : Nat) (x : Value), B[j]? = some x → w'.cell? ⟨w.heap.size + 1, j, none⟩ = some x) ∧ (∀ (j : Nat) (x : Value), C[j]? = some x → w'.cell? ⟨w.heap.size + 1 + 1, j, none⟩ = some x) := by
  have h2 := two_cells (w := w) (A := A) (B := B) (t := t) (u := u) (below_new ((w.alloc (.cells A t)).alloc (.cells B u)) (.cells C v))
  refine ⟨fun j x h => ?_, fun j x h => ?_, fun j x h => ?_⟩
  · rw [hb.cell (p := ⟨w.heap.size, j, none⟩) (by simp; omega)]; exact h2.1 j x h
  · rw [hb.cell (p := ⟨w.heap.size + 1, j, none⟩) (by simp)]; exact h2.2 j x h
  · have := box_cell (w := (w.alloc (.cells A t)).alloc (.cells B u)) hb h
    simpa using this
theorem three_rd {w : World} {S : Nat → Prop} {V V' V'' : PVal} {c c' c'' : List Value} (h : Rd w S V c) (h' : Rd w S V' c') (h'' : Rd w S V'' c'') : ∀ (i : Nat) (x : PVal) (cs : List Value), [V, V', V''][i]? = some x → [c, c', c''][i]? = some cs → Rd w S x cs := by
  intro i x cs hx hc
  match i with
  | 0 =>
    simp at hx hc
    subst hx hc
    exact h
  | i + 1 => exact two_rd h' h'' i x cs (by simpa using hx) (by simpa using hc)
theorem cmpV_range (V : PVal) : ∀ V', cmpV V V' = -1 ∨ cmpV V V' = 0 ∨ cmpV V V' = 1 := by
  have hx : ∀ {x y : Int}, (x = -1 ∨ x = 0 ∨ x = 1) → (y = -1 ∨ y = 0 ∨ y = 1) → (lex x y = -1 ∨ lex x y = 0 ∨ lex x y = 1) := by
    intro x y h k; unfold lex; split <;> assumption
  have hs : ∀ a b, Lib.compareBytes a b = -1 ∨ Lib.compareBytes a b = 0 ∨ Lib.compareBytes a b = 1 := by
    intro a
    induction a with
    | nil => intro b; cases b <;> simp [Lib.compareBytes]
    | cons x r ih =>
      intro b
      cases b with
      | nil => simp [Lib.compareBytes]
      | cons y r' => rw [Lib.compareBytes]; split; simp; split; simp; exact ih r'
  refine PVal.ind (M := fun V => ∀ V', cmpV V V' = -1 ∨ cmpV V V' = 0 ∨ cmpV V V' = 1) ?_ V
  intro k n s l fn fv hl hf V'
  obtain ⟨k', n', s', l', fn', fv'⟩ := V'
  have hL : ∀ l l' : List PVal, (∀ x ∈ l, ∀ y, cmpV x y = -1 ∨ cmpV x y = 0 ∨ cmpV x y = 1) → (cmpL l l' = -1 ∨ cmpL l l' = 0 ∨ cmpL l l' = 1) := by
    intro l
    induction l with
    | nil => intro l' _; simp [(cmpL_nil l').1]
    | cons x r ih =>
      intro l' h
      cases l' with
      | nil => simp [(cmpL_nil _).2]
      | cons y r' => rw [cmpL_cons]; exact hx (h x (by simp) y) (ih r' (fun z hz => h z (by simp [hz])))
  have hF : ∀ (fv : List PVal) (fn fn' : List ByteArray) (fv' : List PVal), (∀ x ∈ fv, ∀ y, cmpV x y = -1 ∨ cmpV x y = 0 ∨ cmpV x y = 1) → (cmpF fn fv fn' fv' = -1 ∨ cmpF fn fv fn' fv' = 0 ∨ cmpF fn fv fn' fv' = 1) := by
    intro fv
    induction fv with
    | nil => intro fn fn' fv' _; simp [(cmpF_nil fn fn' fv').1]
    | cons x r ih =>
      intro fn fn' fv' h
      match fn, fn', fv' with
      | [], [], [] => simp [cmpF]
      | [], _ :: _, [] => simp [cmpF]
      | _ :: _, [], [] => simp [cmpF]
      | _ :: _, _ :: _, [] => simp [cmpF]
      | [], [], _ :: _ => simp [cmpF]
      | [], _ :: _, _ :: _ => simp [cmpF]
      | _ :: _, [], _ :: _ => simp [cmpF]
      | a :: ar, b :: br, y :: r' => rw [cmpF_cons]; exact hx (hx (hs _ _) (h x (by simp) y)) (ih ar br r' (fun z hz => h z (by simp [hz])))
  rw [cmpV_lex]
  exact hx (icmp_range _ _) (hx (hL l l' hl) (hx (hF fv fn fn' fv' hf) (hx (icmp_range _ _) (hx (hs _ _) (hx (icmp_range _ _) (icmp_range _ _))))))
theorem cmpV_pair (a b c : PVal) : cmpV (listV [c, a]) (listV [c, b]) = cmpV a b := by
  simp [listV, cmpV, cmpL, cmpF, cmpV_same, icmp, scmp_same, orI]
  omega
theorem good_formed {V : PVal} (h : V.good = 0) : V.all formedB = true := by
  unfold PVal.good at h
  by_cases e : V.all formedB = true
  · exact e
  · simp [e] at h


end Go.Proofs.YtihcegakghmdfaaDoor

namespace Go.Proofs.YtihcegakghmdfaaDoor
open Go.RowKit Go.Proofs

theorem if_zero {p : Prop} [Decidable p] {x y : Int} (h : p) : (if p then x else y) = x := if_pos h
theorem or2_zero {x y : Int} (h : x = 0) (k : y = 0) : orI [x, y] = 0 := by simp [orI, h, k]
theorem or2_left {x y : Int} (h : x ≠ 0) : orI [x, y] = x := by simp [orI, h]
theorem or2_right {x y : Int} (h : x = 0) : orI [x, y] = y := by by_cases k : y = 0 <;> simp [orI, h, k]

/-- Block g holds o. -/
def Blk (w : World) (g : Nat) (o : Obj) : Prop := w.heap[g]? = some o
theorem Blk.lt {w : World} {g : Nat} {o : Obj} (h : Blk w g o) : g < w.heap.size := (Array.getElem?_eq_some_iff.1 h).1
theorem blk_new {w : World} {g : Nat} {o : Obj} (h : g = w.heap.size) : Blk (w.alloc o) g o := by subst h; exact heap_alloc_new w o
theorem Blk.below {w w' : World} {g : Nat} {o : Obj} (h : Blk w g o) (hb : Below w.heap.size w w') : Blk w' g o := (hb.block g h.lt).trans h
theorem Blk.alloc {w : World} {g : Nat} {o o' : Obj} (h : Blk w g o) : Blk (w.alloc o') g o := h.below (below_new _ _)
theorem Blk.drew {w : World} {g : Nat} {o : Obj} (h : Blk w g o) : Blk w.drew g o := h
theorem rdL_block {w : World} {Vs : List PVal} {css : List (List Value)} {cells : Array Value} {t : TypeId} {n g : Nat} (hn : n = Vs.length) (hlen : css.length = Vs.length) (hc : cells = css.flatten.toArray)
    (hr : ∀ (i : Nat) (x : PVal) (cs : List Value), Vs[i]? = some x → css[i]? = some cs → Rd w (Now w) x cs) (hb : Blk w g (.cells cells t)) (hl : Vs.length ≤ 1000) :
    RdL w (Now w) Vs (.slice (some ⟨g, 0, none⟩) n n) := by
  subst hn
  have h5 : ∀ cs ∈ css, cs.length = 5 := by
    intro cs hcs
    obtain ⟨i, hi⟩ := List.getElem?_of_mem hcs
    have hil : i < Vs.length := by rw [← hlen]; exact (List.getElem?_eq_some_iff.1 hi).1
    exact (hr i _ cs (List.getElem?_eq_getElem hil) hi).len
  have hcs : ∀ i, i < Vs.length → css[i]? = some (css.getD i []) := by
    intro i hi
    have : i < css.length := by omega
    simp [List.getD, List.getElem?_eq_getElem this]
  refine ⟨_, _, fun i => css.getD i [], rfl, Nat.le_refl _, ⟨by omega, by omega⟩, .inr ⟨g, 0, rfl, hb.lt, fun i hi j v hv => ?_⟩, fun i x hx => ?_⟩
  · rw [Nat.zero_add]
    exact (cell_of_row _ _ _ _ _ _ hb).trans (by rw [hc, List.getElem?_toArray]; exact flatten_at 5 css h5 i _ (hcs i hi) j v hv)
  · have hi : i < Vs.length := (List.getElem?_eq_some_iff.1 hx).1
    exact hr i x _ hx (hcs i hi)

end Go.Proofs.YtihcegakghmdfaaDoor

namespace Go.Proofs.YtihcegakghmdfaaDoor
open Go.RowKit Go.Proofs

theorem Src.at_ {w : World} {g : Nat} {l : List UInt8} (h : Src w g l) {j : Nat} {b : UInt8} (hb : l[j]? = some b) : w.cell? ⟨g, j, none⟩ = some (.int .u8 b.toNat) := by
  have := h j (.int .u8 b.toNat) (by simp [bcells, hb])
  unfold Addr.add at this
  split at this
  · rename_i h0; subst h0; exact this
  · simpa using this

theorem rstrings_calls (a b : ByteArray) (w : World) : Calls Tryd.prog 88 #[.string a, .string b] w fun e w' => e = .returned (.int .i64 (scmp a b)) ∧ w = w' := by
  have hR : Hid (scmp a b = if blt a b then -1 else if blt b a then 1 else 0) := scmp_less a b
  generalize scmp a b = R at *
  cases h1 : blt a b with
  | true =>
    replace hR : Hid (R = -1) := by show _ = _; rw [hR.out, h1]; rfl
    have b1 : Op.bytesLess a.toList b.toList = true := h1
    go_enter Tryd.func88, Tryd.ntmps88
    go_wp2_with fail
    go_ret
    exact ⟨by rw [hR.out]; rfl, rfl⟩
  | false =>
  have b1 : Op.bytesLess a.toList b.toList = false := h1
  cases h2 : blt b a with
  | true =>
    replace hR : Hid (R = 1) := by show _ = _; rw [hR.out, h1, h2]; rfl
    have b2 : Op.bytesLess b.toList a.toList = true := h2
    have b3 : (a.toList == b.toList) = false := by
      rw [beq_eq_false_iff_ne]
      intro e
      rw [e] at b2 b1
      rw [b1] at b2
      cases b2
    go_enter Tryd.func88, Tryd.ntmps88
    go_wp2_with fail
    go_ret
    exact ⟨by rw [hR.out]; rfl, rfl⟩
  | false =>
    replace hR : Hid (R = 0) := by show _ = _; rw [hR.out, h1, h2]; rfl
    have b2 : Op.bytesLess b.toList a.toList = false := h2
    have b3 : (a.toList == b.toList) = true := by
      have := less_cmp a.data.toList b.data.toList
      rw [← ByteArray.toList_eq, ← ByteArray.toList_eq, b1, b2] at this
      have := (bytes_zero _ _).1 (by simpa using this)
      rw [this]; simp
    go_enter Tryd.func88, Tryd.ntmps88
    go_wp2_with fail
    go_ret
    exact ⟨by rw [hR.out]; rfl, rfl⟩
end Go.Proofs.YtihcegakghmdfaaDoor
