/-
  Walks: the makers of values in the statements of layer 2.
-/
import Derived.Test.YtdjegpmjhfbamaaDoorVal11
import Derived.Handy
namespace Go.Proofs.YtdjegpmjhfbamaaDoor
open Go.RowKit Go.Proofs

def flatCs (k n : Int) (s : ByteArray) : List Value := [.int .i64 k, .int .i64 n, .string s, .slice none 0 0, .slice none 0 0]
theorem rd_flat (w : World) (S : Nat → Prop) {k n : Int} {s : ByteArray} (hk : I64 k) (hn : I64 n) (hs : s.size ≤ 140737488355328) : Rd w S (.mk k n s [] [] []) (flatCs k n s) :=
  .mk (la := none) (fa := none) (lc := 0) (fc := 0) (fun _ => []) (fun _ => []) hk hn hs (fun _ h => by cases h) rfl (by decide) (by decide) (by decide) (by decide) (.inl rfl) (fun i x h => by simp at h) (.inl rfl) (fun i x h => by simp at h)

theorem int_calls (n : Int) (w : World) : Calls Tryd.prog 33 #[.int .i64 n] w fun e w' => e = .returned (.agg #[.int .i64 3, .int .i64 n, .string ByteArray.empty, .slice none 0 0, .slice none 0 0]) ∧ Below w.heap.size w w' := by
  go_enter Tryd.func33, Tryd.ntmps33
  go_wp2_with fail
  go_returns
  exact ⟨rfl, below_new _ _⟩
theorem text_calls (s : ByteArray) (w : World) : Calls Tryd.prog 38 #[.string s] w fun e w' => e = .returned (.agg #[.int .i64 4, .int .i64 0, .string s, .slice none 0 0, .slice none 0 0]) ∧ Below w.heap.size w w' := by
  go_enter Tryd.func38, Tryd.ntmps38
  go_wp2_with fail
  go_returns
  exact ⟨rfl, below_new _ _⟩
theorem null_calls (w : World) : Calls Tryd.prog 54 #[] w fun e w' => e = .returned (.agg #[.int .i64 1, .int .i64 0, .string ByteArray.empty, .slice none 0 0, .slice none 0 0]) ∧ Below w.heap.size w w' := by
  go_enter Tryd.func54, Tryd.ntmps54
  go_wp2_with fail
  go_returns
  exact ⟨rfl, below_new _ _⟩
theorem list_calls (la : Option Addr) (n c : Nat) (w : World) : Calls Tryd.prog 34 #[.slice la n c] w fun e w' =>
    e = .returned (.agg #[.int .i64 5, .int .i64 0, .string ByteArray.empty, .slice la n c, .slice none 0 0]) ∧ Below w.heap.size w w' := by
  go_enter Tryd.func34, Tryd.ntmps34
  go_wp2_with fail
  go_returns
  exact ⟨rfl, below_new _ _⟩
/-- A list of a slice. -/
theorem rd_list {w : World} {S : Nat → Prop} {l : List PVal} {la : Option Addr} {c : Nat} (h : RdL w S l (.slice la l.length c)) :
    Rd w S (.mk 5 0 ByteArray.empty l [] []) [.int .i64 5, .int .i64 0, .string ByteArray.empty, .slice la l.length c, .slice none 0 0] := by
  obtain ⟨la', cap', cs, hv, h1, h2, h3, h4⟩ := h
  injection hv with e1 e2 e3
  subst e1 e3
  exact .mk (fa := none) (fc := 0) cs (fun _ => []) (by decide) (by decide) (by decide) (fun _ h => by cases h) rfl h1 h2 (by decide) (by decide) h3 h4 (.inl rfl) (fun i x h => by simp at h)
/-- A slice of one value that was just laid. -/
theorem rdL_one {w w' : World} {S : Nat → Prop} {V : PVal} {cs : List Value} {t : TypeId} (h : Rd w S V cs) (hb : Below (w.alloc (.cells cs.toArray t)).heap.size (w.alloc (.cells cs.toArray t)) w') (hS : ∀ b, S b → b < w.heap.size) :
    RdL w' (fun b => S b ∨ b = w.heap.size) [V] (.slice (some ⟨w.heap.size, 0, none⟩) 1 1) := by
  refine ⟨some ⟨w.heap.size, 0, none⟩, 1, fun _ => cs, rfl, Nat.le_refl _, by simp, .inr ⟨w.heap.size, 0, rfl, .inr rfl, fun i hi j v hv => ?_⟩, fun i x hx => ?_⟩
  · have hi0 : i = 0 := by simpa using hi
    subst hi0
    rw [show 0 + 0 * 5 + j = j by omega]
    exact box_cell hb (by simpa using hv)
  · have hi0 : i = 0 := by
      have := (List.getElem?_eq_some_iff.1 hx).1
      simpa using this
    subst hi0
    have hx' : V = x := by simpa using hx
    subst hx'
    exact h.keep (fun _ h => .inl h) (fun b hb' => by
      rw [hb.block b (by have := hS b hb'; simp; omega)]
      exact Below.heap_alloc _ _ _ (hS b hb'))
/-- A Doc of one field that was just laid. -/
theorem rd_doc {w w' : World} {S : Nat → Prop} {V : PVal} {cs : List Value} {nm : ByteArray} {t : TypeId} {g : Nat} (hg : g = w.heap.size) (h : Rd w S V cs) (hnm : nm.size ≤ 140737488355328)
    (hb : Below (w.alloc (.cells ((.string nm : Value) :: cs).toArray t)).heap.size (w.alloc (.cells ((.string nm : Value) :: cs).toArray t)) w') (hS : ∀ b, S b → b < w.heap.size) :
    Rd w' (fun b => S b ∨ b = w.heap.size) (.mk 6 0 ByteArray.empty [] [nm] [V]) [.int .i64 6, .int .i64 0, .string ByteArray.empty, .slice none 0 0, .slice (some ⟨g, 0, none⟩) 1 1] := by
  subst hg
  refine .mk (la := none) (lc := 0) (fun _ => []) (fun _ => cs) (by decide) (by decide) (by decide) (fun x hx => ?_) rfl (by decide) (by decide) (by simp) (by simp) (.inl rfl) (fun i x h => by simp at h)
    (.inr ⟨w.heap.size, 0, rfl, .inr rfl, fun i hi j v hv => ?_⟩) (fun i x hx => ?_)
  · have : x = nm := by simpa using hx
    subst this; exact hnm
  · have hi0 : i = 0 := by simpa using hi
    subst hi0
    rw [show 0 + 0 * 6 + j = j by omega]
    exact box_cell hb (by simpa using hv)
  · have hi0 : i = 0 := by
      have := (List.getElem?_eq_some_iff.1 hx).1
      simpa using this
    subst hi0
    have hx' : V = x := by simpa using hx
    subst hx'
    exact h.keep (fun _ h => .inl h) (fun b hb' => by
      rw [hb.block b (by have := hS b hb'; simp; omega)]
      exact Below.heap_alloc _ _ _ (hS b hb'))

theorem doc_calls (nm : ByteArray) (V : PVal) (S : Nat → Prop) (w : World) (cs : List Value) (hnm : nm.size ≤ 140737488355328) (hV : Rd w S V cs) (hS : ∀ b, S b → b < w.heap.size) : Calls Tryd.prog 36 #[.string nm, .agg cs.toArray] w fun e w' =>
    ∃ fa c, e = .returned (.agg #[.int .i64 6, .int .i64 0, .string ByteArray.empty, .slice none 0 0, .slice fa 1 c]) ∧ Rd w' (fun b => S b ∨ (w.heap.size ≤ b ∧ b < w'.heap.size)) (.mk 6 0 ByteArray.empty [] [nm] [V]) [.int .i64 6, .int .i64 0, .string ByteArray.empty, .slice none 0 0, .slice fa 1 c] ∧ Below w.heap.size w w' := by
  have hV0 := hid hV
  have hS := hid hS
  obtain ⟨k, n, s, l, fn, fv⟩ := V
  obtain ⟨la, lc, fa, fc, rfl, _⟩ := hV.inv
  clear hV
  go_enter Tryd.func36, Tryd.ntmps36
  go_wp2_with fail
  go_returns
  have hb := (below_new w (.cells #[.int .i64 k, .int .i64 n, .string s, .slice la l.length lc, .slice fa fv.length fc] 52)).step (below_new _ (.cells #[.int .i64 6, .int .i64 0, .string ByteArray.empty, .slice none 0 0, .slice (some ⟨w.heap.size + 1 + 1, 0, none⟩) 1 1] 52))
  have hsz := hb.size
  refine ⟨_, _, rfl, (rd_doc (by simp) (hV0.out.keep (S' := S) (fun _ h => h) (fun b h => hb.block b (hS.out b h))) hnm (Below.refl _ _) (fun b h => Nat.lt_of_lt_of_le (hS.out b h) hsz)).keep (fun b h => ?_) (fun _ _ => rfl), hb.step (below_new _ _)⟩
  rcases h with h | h
  · exact .inl h
  · right
    simp at h ⊢
    omega

theorem OwnL.ge {w : World} {S : Nat → Prop} {base e : Nat} {xs : List PVal} {v : Value} (h : OwnL w S base e xs v) (b : Nat) (hb : v.ownBlock = some b) : base ≤ b := by
  obtain ⟨css, _, ho, _⟩ := h
  exact (ho.lt b hb).1
def nullV : PVal := .mk 1 0 ByteArray.empty [] [] []
set_option maxRecDepth 100000 in
theorem many_calls (n : Nat) (hn : n ≤ 1000) (w : World) : Calls Tryd.prog 35 #[.int .i64 n] w fun e w' =>
    ∃ la cap, e = .returned (.slice la n cap) ∧ RdL w' (fun b => w.heap.size ≤ b ∧ b < w'.heap.size) (List.replicate n nullV) (.slice la n cap) ∧ Below w.heap.size w w' := by
  obtain ⟨i0, hi, hz0, hz1, hz2⟩ := info_parts info52
  have hN := hid (fun w => null_calls w)
  go_enter Tryd.func35, Tryd.ntmps35
  go_wp2_with fail
  go_loopg [3, 4] n (fun g o i wr => ∃ j : Nat, g + j = n ∧ i = .int .i64 j ∧ Below w.heap.size w wr ∧ OwnL wr (fun _ => False) w.heap.size 52 (List.replicate j nullV) o)
  case atStart => exact ⟨0, by omega, rfl, Below.refl _ _, OwnL.nil _ _ _ _⟩
  case round =>
    obtain ⟨j, hj, rfl, hbr, hown⟩ := hrel
    by_cases hlt : j < n
    · have hl : Hid ((List.replicate j nullV).length = j) := by show _ = _; simp
      obtain ⟨oa, oc, hof, hoc⟩ := hown.form
      rw [hl.out] at hof hoc
      subst hof
      go_wp2_with fail
      refine (hN.out _).mono ?_
      rintro e w1 ⟨rfl, hb1⟩
      have hbw := hbr.step hb1
      have hbs := hid hbw.size
      go_wp2_with (first
          | (at_builtin; (refine wpList_append_val _ rfl _ _ 49 rfl w.heap.size 52 i0 _ Tryd.underlying49 hi hz0 hz1 hz2 rfl (fun _ => False) (List.replicate j nullV) _ j hl.out rfl (hown.keep (hb1.step (below_new _ _)) (fun _ h => h.elim)) ⟨w1.heap.size, 0, none⟩ 1 (flatCs 1 0 ByteArray.empty) nullV rfl (cells_new _ _ rfl _ _) (rd_flat _ _ ⟨by decide, by decide⟩ ⟨by decide, by decide⟩ (by decide)) (by omega) (fun _ h => h.elim) (hbw.step (below_new _ _)).size ?_); intro v' w2 hown2 hg2 hlow))
      go_roundg (n - (j + 1))
      case measure => omega
      case rel => exact ⟨j + 1, by omega, by go_num, (hbw.step (below_new _ _)).trans ⟨hg2.os, hg2.tape, hg2.output, hg2.size, hlow⟩, by rw [List.replicate_succ']; exact hown2⟩
    · go_wp2_with fail
      obtain rfl : j = n := by omega
      go_ret
      have hge := hown.ge
      obtain ⟨oa, oc, rfl, hoc⟩ := hown.form
      rw [List.length_replicate]
      have := hown.read (S' := fun b => w.heap.size ≤ b ∧ b < wr.heap.size) (fun _ h => h.elim) (fun b hb => ⟨hge b hb, hown.lt b hb⟩) (by simp; omega)
      rw [List.length_replicate] at this
      exact ⟨oa, oc, rfl, this, hbr⟩

def longS : Nat → ByteArray
  | 0 => ByteArray.empty
  | j + 1 => longS j ++ ⟨#[110]⟩
theorem longS_size : ∀ j, (longS j).size = j
  | 0 => rfl
  | j + 1 => by rw [longS, ByteArray.size_append, longS_size j]; rfl
theorem longS_list : ∀ j, (longS j).data.toList = List.replicate j 110
  | 0 => rfl
  | j + 1 => by rw [longS, ByteArray.data_append, Array.toList_append, longS_list j, List.replicate_succ']
theorem long_calls (n : Nat) (hn : n ≤ 10000) (w : World) : Calls Tryd.prog 37 #[.int .i64 n] w fun e w' => e = .returned (.string (longS n)) ∧ w = w' := by
  have h0 : Hid (longS 0 = ByteArray.empty) := rfl
  have hsz := hid longS_size
  have hs1 : Hid (∀ j, longS (j + 1) = longS j ++ ⟨#[110]⟩) := fun _ => rfl
  generalize longS = L at *
  go_enter Tryd.func37, Tryd.ntmps37
  go_wp2_with fail
  go_loopg [3, 4] n (fun g o i wr => ∃ j : Nat, g + j = n ∧ i = .int .i64 j ∧ o = .string (L j) ∧ wr = w)
  case atStart => exact ⟨0, by omega, rfl, by rw [h0.out]; rfl, rfl⟩
  case round =>
    obtain ⟨j, hj, rfl, rfl, rfl⟩ := hrel
    have hs := hsz.out j
    generalize hl : L j = sj at *
    have hl := hid hl
    by_cases hlt : j < n
    · go_wp2_with fail
      go_roundg (n - (j + 1))
      case measure => omega
      case rel => exact ⟨j + 1, by omega, by go_num, by rw [hs1.out j, hl.out], rfl⟩
    · go_wp2_with fail
      obtain rfl : j = n := by omega
      go_ret
      exact ⟨by rw [hl.out]; rfl, rfl⟩
end Go.Proofs.YtdjegpmjhfbamaaDoor
