/-
  A row of fields as Go's stable sort takes it: elements, their order by names. No condition.
  A row of fields in memory, as Go's stable sort turns it. No condition.
-/
import Derived.Shelf.SlSortCmp.KitK
import Derived.Test.YtckdgmjekfpcjaaDoorMgSrtP
import Derived.Test.YtckdgmjekfpcjaaDoorMgPlain
namespace Go.Proofs.YtckdgmjekfpcjaaDoor
open Go.RowKit Go.Proofs
open Go.Sort (swp PermIn SortedIn SWO)

/-- An element's six cells: a name, and a value's five. -/
structure FE where
  nm : ByteArray
  k : Int
  n : Int
  s : ByteArray
  la : Option Addr
  ll : Nat
  lc : Nat
  fa : Option Addr
  fl : Nat
  fc : Nat
instance : Inhabited FE := ⟨⟨ByteArray.empty, 0, 0, ByteArray.empty, none, 0, 0, none, 0, 0⟩⟩
def FE.val (x : FE) : List Value := [.int .i64 x.k, .int .i64 x.n, .string x.s, .slice x.la x.ll x.lc, .slice x.fa x.fl x.fc]
def FE.cells (x : FE) : List Value := [.string x.nm, .int .i64 x.k, .int .i64 x.n, .string x.s, .slice x.la x.ll x.lc, .slice x.fa x.fl x.fc]
theorem FE.len (x : FE) : x.cells.length = 6 := rfl
theorem FE.one (x : FE) : ∀ v ∈ x.cells, v.oneCell' = true := by
  intro v hv
  simp only [FE.cells, List.mem_cons, List.not_mem_nil, or_false] at hv
  rcases hv with rfl | rfl | rfl | rfl | rfl | rfl <;> rfl
def ltE (x y : FE) : Bool := decide (scmp x.nm y.nm < 0)
theorem swo_E : SWO ltE := by
  refine ⟨fun x => ?_, fun x y z h1 h2 => ?_, fun x y z h1 h2 => ?_⟩
  · have := (scmp_zero (a := x.nm) (b := x.nm)).2 rfl
    simp only [ltE, decide_eq_false_iff_not]; omega
  · simp only [ltE, decide_eq_true_eq] at *
    exact (scmp_trans (Int.le_of_lt h1) (Int.le_of_lt h2)).2.1 h1
  · simp only [ltE, decide_eq_false_iff_not] at *
    intro h
    have a1 := scmp_anti x.nm y.nm
    have a2 := scmp_anti y.nm z.nm
    have a3 := scmp_anti x.nm z.nm
    have := (scmp_trans (a := z.nm) (b := y.nm) (c := x.nm) (by omega) (by omega)).1
    omega
end Go.Proofs.YtckdgmjekfpcjaaDoor

namespace Go.Proofs.YtckdgmjekfpcjaaDoor
open Go.RowKit Go.Proofs
open Go.Sort (swp)

/-- The row's cells, and that they may be written. -/
def RowE (w : World) (g off : Nat) (d : Array FE) : Prop := g < w.heap.size ∧ (∀ i, i < d.size → ∀ (j : Nat) v, d[i]!.cells[j]? = some v → w.cell? ⟨g, off + i * 6 + j, none⟩ = some v) ∧ ∀ o, w.frozen? ⟨g, o, none⟩ = false
theorem RowE.later {w w' : World} {g off : Nat} {d : Array FE} (h : RowE w g off d) (hb : Below w.heap.size w w') : RowE w' g off d := by
  obtain ⟨h1, h2, h3⟩ := h
  exact ⟨Nat.lt_of_lt_of_le h1 hb.size, fun i hi j v hv => (hb.cell (p := ⟨g, _, none⟩) h1).trans (h2 i hi j v hv), fun o => by have := h3 o; simp only [World.frozen?, hb.block g h1] at this ⊢; exact this⟩
theorem RowE.cell {w : World} {g off : Nat} {d : Array FE} (h : RowE w g off d) {i : Nat} (hi : i < d.size) : w.cell? ⟨g, off + i * 6, none⟩ = some (.string d[i]!.nm) ∧ w.cell? ⟨g, off + i * 6 + 1, none⟩ = some (.int .i64 d[i]!.k) ∧ w.cell? ⟨g, off + i * 6 + 2, none⟩ = some (.int .i64 d[i]!.n) ∧ w.cell? ⟨g, off + i * 6 + 3, none⟩ = some (.string d[i]!.s) ∧ w.cell? ⟨g, off + i * 6 + 4, none⟩ = some (.slice d[i]!.la d[i]!.ll d[i]!.lc) ∧ w.cell? ⟨g, off + i * 6 + 5, none⟩ = some (.slice d[i]!.fa d[i]!.fl d[i]!.fc) := six (h.2.1 i hi)
/-- A run of cells laid. -/
theorem cells_laid {w : World} {g p : Nat} {vs : List Value} (hold : ∀ j, j < vs.length → (w.cell? ⟨g, p + j, none⟩).isSome = true) : (∀ (j : Nat) v, vs[j]? = some v → (w.setCells g p vs).cell? ⟨g, p + j, none⟩ = some v) ∧ (∀ o, o < p ∨ p + vs.length ≤ o → (w.setCells g p vs).cell? ⟨g, o, none⟩ = w.cell? ⟨g, o, none⟩) ∧ ∀ o, (w.setCells g p vs).frozen? ⟨g, o, none⟩ = w.frozen? ⟨g, o, none⟩ :=
  ⟨fun j v hv => by
    obtain ⟨hj, he⟩ := List.getElem?_eq_some_iff.1 hv
    rw [World.cell?_setCells_in g vs _ w (fun t ht => hold t ht) j hj, he], fun o h => World.cell?_setCells_out g vs _ w ⟨g, o, none⟩ (fun _ _ => h), fun o => World.frozen?_setCells _ _ _ _ _⟩
theorem below_cells {base g : Nat} (hg : base ≤ g) : ∀ (vs : List Value) (o : Nat) (w : World), Below base w (w.setCells g o vs)
  | [], _, w => Below.refl _ w
  | v :: r, o, w => ((Below.refl base w).setCell (p := ⟨g, o, none⟩) hg v).trans (below_cells hg r (o + 1) (w.setCell ⟨g, o, none⟩ v))
/-- Two elements exchanged. -/
theorem RowE.swapped {w : World} {g off : Nat} {d : Array FE} (h : RowE w g off d) {i j : Nat} (hi : i < d.size) (hj : j < d.size) (hij : i ≠ j) :
    RowE ((w.setCells g (off + i * 6) d[j]!.cells).setCells g (off + j * 6) d[i]!.cells) g off (swp d i j) := by
  obtain ⟨h1, h2, h3⟩ := h
  have p1 := cells_laid (w := w) (g := g) (p := off + i * 6) (vs := d[j]!.cells) (fun t ht => by
    have ht6 : t < d[i]!.cells.length := ht
    rw [h2 i hi t _ (List.getElem?_eq_getElem ht6)]; rfl)
  obtain ⟨a1, a2, a3⟩ := p1
  have hd : i < j ∨ j < i := by omega
  have hsep : ∀ a b : Nat, a < b → a * 6 + 6 ≤ b * 6 := fun a b hab => by omega
  have p2 := cells_laid (w := w.setCells g (off + i * 6) d[j]!.cells) (g := g) (p := off + j * 6) (vs := d[i]!.cells) (fun t ht => by
    have ht6 : t < 6 := ht
    have htj : t < d[j]!.cells.length := ht
    rw [a2 _ (by show _ ∨ off + i * 6 + 6 ≤ _; omega), h2 j hj t _ (List.getElem?_eq_getElem htj)]; rfl)
  obtain ⟨b1, b2, b3⟩ := p2
  refine ⟨?_, fun t ht c v hv => ?_, fun o => by rw [b3, a3]; exact h3 o⟩
  · exact Nat.lt_of_lt_of_le h1 (Nat.le_trans (below_cells (Nat.le_refl g) d[j]!.cells (off + i * 6) w).size (below_cells (Nat.le_refl g) d[i]!.cells (off + j * 6) _).size)
  · have htd : t < d.size := by rw [Go.Sort.size_swp] at ht; exact ht
    have hc6 : c < 6 := (List.getElem?_eq_some_iff.1 hv).1
    by_cases etj : t = j
    · subst etj
      rw [Go.Sort.swp_right d i t hj] at hv
      exact b1 c v hv
    · by_cases eti : t = i
      · subst eti
        rw [Go.Sort.swp_left d t j hi hij] at hv
        rw [b2 _ (by show _ ∨ off + j * 6 + 6 ≤ _; omega)]
        exact a1 c v hv
      · rw [Go.Sort.swp_other d i j t eti etj] at hv
        rw [b2 _ (by show _ ∨ off + j * 6 + 6 ≤ _; omega), a2 _ (by show _ ∨ off + i * 6 + 6 ≤ _; omega)]
        exact h2 t htd c v hv
/-- What a piece of the sort leaves. -/
def SortC (base g off : Nat) (spec : Array FE → Prop) (w : World) (e : Ending) (w' : World) : Prop := e = .returned (.tuple #[]) ∧ Below base w w' ∧ ∃ d, spec d ∧ RowE w' g off d
end Go.Proofs.YtckdgmjekfpcjaaDoor
