/-
  Walks: codec's must, the reader's byte.
-/
import Derived.Test.YtihcegakghmdfaaDoorMgBuf
import Derived.Test.YtihcegakghmdfaaDoorMgRef1
import Derived.Test.YtihcegakghmdfaaDoorMgOrd0
import Derived.BigQuiet
namespace Go.Proofs.YtihcegakghmdfaaDoor
open Go.RowKit Go.Proofs

/-- A call that ended by this error. -/
def Thrown (e : Ending) (c : Int) : Prop := e = .panicked [{ v := .iface 28 (.int .i64 c), recovered := false }]

theorem must_yes (c : Int) (w : World) : Calls Tryd.prog 72 #[.bool true, .int .i64 c] w fun e w' => e = .returned (.tuple #[]) ∧ w = w' := by
  go_enter Tryd.func72, Tryd.ntmps72
  go_wp2_with fail
  go_returns
  exact ⟨rfl, rfl⟩
theorem must_no (c : Int) (w : World) : Calls Tryd.prog 72 #[.bool false, .int .i64 c] w fun e w' => Thrown e c ∧ w = w' := by
  go_enter Tryd.func72, Tryd.ntmps72
  go_wp2_with fail
  exact ⟨rfl, rfl, rfl⟩

/-- The reader: its bytes, and where it stands. -/
structure At (w : World) (g : Nat) (bv : Value) (l : List UInt8) (p : Nat) : Prop where
  row : w.heap[g]? = some (.cells #[bv, .int .i64 p] 101 (0, 0))
  src : BytesAt w (· < g) l bv
  le : p ≤ l.length
  lim : l.length ≤ 140737488355328
theorem At.cell0 {w : World} {g : Nat} {bv : Value} {l : List UInt8} {p : Nat} (h : At w g bv l p) : w.cell? ⟨g, 0, none⟩ = some bv := cell_of_row _ _ _ _ _ _ h.row
theorem At.cell1 {w : World} {g : Nat} {bv : Value} {l : List UInt8} {p : Nat} (h : At w g bv l p) : w.cell? ⟨g, 1, none⟩ = some (.int .i64 p) := cell_of_row _ _ _ _ _ _ h.row
theorem At.free {w : World} {g : Nat} {bv : Value} {l : List UInt8} {p : Nat} (h : At w g bv l p) : w.frozen? ⟨g, 1, none⟩ = false := frozen_of_row _ _ _ _ _ h.row
theorem At.lt {w : World} {g : Nat} {bv : Value} {l : List UInt8} {p : Nat} (h : At w g bv l p) : g < w.heap.size := (Array.getElem?_eq_some_iff.1 h.row).1
theorem At.keep {w w' : World} {g : Nat} {bv : Value} {l : List UInt8} {p : Nat} (h : At w g bv l p) (hb : ∀ b, b ≤ g → w'.heap[b]? = w.heap[b]?) : At w' g bv l p :=
  ⟨(hb g (Nat.le_refl _)).trans h.row, h.src.keep (fun _ k => k) (fun b k => hb b (Nat.le_of_lt k)), h.le, h.lim⟩
theorem At.later {w w' : World} {g : Nat} {bv : Value} {l : List UInt8} {p : Nat} (h : At w g bv l p) (hb : Below w.heap.size w w') : At w' g bv l p :=
  h.keep fun b k => hb.block b (Nat.lt_of_le_of_lt k h.lt)
theorem At.set {w : World} {g : Nat} {bv : Value} {l : List UInt8} {p q : Nat} (h : At w g bv l p) (hq : q ≤ l.length) {z : Int} (hz : z = q) : At (w.setCell ⟨g, 1, none⟩ (.int .i64 z)) g bv l q := by
  subst hz
  refine ⟨?_, h.src.keep (fun _ k => k) (fun b k => heap_setCell_other w ⟨g, 1, none⟩ b _ (by simp; omega)), hq, h.lim⟩
  rw [heap_setCell_same w g 1 _ _ _ h.row]
  rfl

set_option maxRecDepth 100000 in
theorem byte_some {w : World} {g : Nat} {bv : Value} {l : List UInt8} {p : Nat} {d : UInt8} (h : At w g bv l p) (hd : l[p]? = some d) :
    Calls Tryd.prog 101 #[.pointer (some ⟨g, 0, none⟩)] w fun e w' => e = .returned (.int .u8 d.toNat) ∧ Save g w w' ∧ At w' g bv l (p + 1) := by
  have hlt : p < l.length := (List.getElem?_eq_some_iff.1 hd).1
  have h0 := hid h
  obtain ⟨a, cap, rfl, hc1, hc2, hs⟩ := h.src
  obtain ⟨b, off, rfl, hb, hcell⟩ : ∃ b off, a = some ⟨b, off, none⟩ ∧ b < g ∧ ∀ (j : Nat) (c : UInt8), l[j]? = some c → w.cell? ⟨b, off + j, none⟩ = some (.int .u8 c.toNat) := by
    rcases hs with rfl | hs
    · simp at hlt
    · exact hs
  have c0 := Later.cell h.cell0
  have c1 := Later.cell h.cell1
  have hlim := h.lim
  have i1 : (p : Int) < (l.length : Int) := by omega
  have hmy := hid must_yes
  go_enter Tryd.func101, Tryd.ntmps101
  go_upto_region 1 with fail
  refine wp_later_tail 10 (by kernel_rfl) (by kernel_rfl) ?_
  simp only [List.take_succ_cons, List.take_zero, List.drop_succ_cons, List.drop_zero]
  repeat (go_big_quiet_step (fail))
  refine wpQuiet_nil ?_
  rintro _ ⟨q, rfl⟩
  have h1 := hid (h0.out.later q.h)
  replace c0 := h1.out.cell0
  replace c1 := h1.out.cell1
  have fz := h1.out.free
  go_wp2_with fail
  refine (hmy.out _ _).mono ?_
  rintro e w1 ⟨rfl, rfl⟩
  go_upto_region 3 with fail
  have h2 := hid (h1.out.set (q := p + 1) (by omega) (z := (p : Int) + 1) (by omega))
  have hsv := hid ((Save.of_below q.h).trans (Save.set q.x g 1 (.int .i64 ((p : Int) + 1))))
  generalize q.x.setCell ⟨g, 1, none⟩ (.int .i64 ((p : Int) + 1)) = w2 at *
  replace c0 := Later.cell h2.out.cell0
  replace c1 := Later.cell h2.out.cell1
  have c2 : w2.cell? ⟨b, off + p, none⟩ = some (.int .u8 d.toNat) := by
    obtain ⟨a', cap', he, _, _, hs'⟩ := h2.out.src
    injection he with e1 e2 e3
    rcases hs' with hs' | ⟨b', off', h3, _, h4⟩
    · rw [hs'] at hlt; simp at hlt
    · rw [h3] at e1
      injection e1 with e1
      injection e1 with e1 e2
      subst e1 e2
      exact h4 p d hd
  replace c2 := Later.cell c2
  have e1 : IntKind.i64.wrap (((p + 1 : Nat) : Int) - 1) = (p : Int) := by rw [IntWalk.i64_in _ (by omega)]; omega
  clear hcell hs
  refine wp_later (by kernel_rfl) (by kernel_rfl) ?_
  repeat (go_big_quiet_step (fail))
  refine wpQuiet_nil ?_
  rintro _ ⟨q2, rfl⟩
  clear c0 c1 c2
  go_wp2_with fail
  go_ret
  exact ⟨rfl, hsv.out.trans (Save.of_below q2.h), h2.out.later q2.h⟩
end Go.Proofs.YtihcegakghmdfaaDoor
