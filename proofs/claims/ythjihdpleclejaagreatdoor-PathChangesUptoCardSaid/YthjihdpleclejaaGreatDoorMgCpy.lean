/-
  Walk: a value copied into new memory. No condition.
-/
import Derived.Test.YthjihdpleclejaaGreatDoorMgQuiet
import Derived.Test.YthjihdpleclejaaGreatDoorMgVal12
import Derived.Deep.RegionHeld3
import Derived.Deep.CutBlock
namespace Go.Proofs.YthjihdpleclejaaGreatDoor
open Go.RowKit Go.Proofs
theorem info_fldc : (Tryz.prog.info? 54).map (fun i => (i.zero, i.size, i.bytes)) = some (some (.agg #[.string ByteArray.empty, .int .i64 0, .int .i64 0, .string ByteArray.empty, .slice none 0 0, .slice none 0 0]), 6, 96) := by kernel_rfl
def Thaw (B : Nat) (w : World) (cs : List Value) : Prop := ∀ (j : Nat) (ad : Addr) (n c : Nat), cs[j]? = some (.slice (some ad) n c) → B ≤ ad.block ∧ ad.block < w.heap.size ∧ ∀ off, w.frozen? ⟨ad.block, off, none⟩ = false
theorem Thaw.keep {B B' : Nat} {w w' : World} {cs : List Value} (h : Thaw B w cs) (hB : B' ≤ B) (hsz : w.heap.size ≤ w'.heap.size) (hb : ∀ b, B ≤ b → b < w.heap.size → w'.heap[b]? = w.heap[b]?) : Thaw B' w' cs := fun j ad n c hj => by
 obtain ⟨h1, h2, h3⟩ := h j ad n c hj
 refine ⟨Nat.le_trans hB h1, Nat.lt_of_lt_of_le h2 hsz, fun off => ?_⟩
 rw [← h3 off]
 unfold World.frozen?
 rw [hb _ h1 h2]
structure CP (A b C g1 g2 n1 n2 : Nat) (k n : Int) (s : ByteArray) (xs : List PVal) (fs : List (ByteArray × PVal)) (w : World) : Prop where
  row : w.heap[b]? = some (.cells #[.int .i64 k, .int .i64 n, .string s, .slice (some ⟨g1, 0, none⟩) xs.length n1, .slice (some ⟨g2, 0, none⟩) fs.length n2] 25 (0, 0))
  ownL : OwnG Rd 5 A C 25 w xs (.slice (some ⟨g1, 0, none⟩) xs.length n1)
  ownF : OwnG RdFl 6 A C 54 w fs (.slice (some ⟨g2, 0, none⟩) fs.length n2)
  lo : A ≤ b
  hb : b < C
  h1 : g1 < C
  h2 : g2 < C
  d1 : g1 ≠ b
  d2 : g2 ≠ b
  d12 : g1 ≠ g2
  size : C ≤ w.heap.size
section
variable {A b C g1 g2 n1 n2 : Nat} {k n : Int} {s : ByteArray} {xs : List PVal} {fs : List (ByteArray × PVal)} {w w' : World}
theorem CP.later (h : CP A b C g1 g2 n1 n2 k n s xs fs w) (hb : Below w.heap.size w w') : CP A b C g1 g2 n1 n2 k n s xs fs w' :=
 ⟨(hb.block b (Nat.lt_of_lt_of_le h.hb h.size)).trans h.row, h.ownL.later valRel hb, h.ownF.later fldRel hb, h.lo, h.hb, h.h1, h.h2, h.d1, h.d2, h.d12, Nat.le_trans h.size hb.size⟩
theorem CP.cell (h : CP A b C g1 g2 n1 n2 k n s xs fs w) {j : Nat} {v : Value} (hj : (#[.int .i64 k, .int .i64 n, .string s, .slice (some ⟨g1, 0, none⟩) xs.length n1, .slice (some ⟨g2, 0, none⟩) fs.length n2] : Array Value)[j]? = some v) : w.cell? ⟨b, j, none⟩ = some v := box_at h.row hj
theorem CP.free (h : CP A b C g1 g2 n1 n2 k n s xs fs w) (j : Nat) : w.frozen? ⟨b, j, none⟩ = false := box_free h.row j
theorem CP.pushL {X : PVal} {v : Value} {w8 : World} (h : CP A b C g1 g2 n1 n2 k n s xs fs w) (ho : OwnG Rd 5 A C 25 w8 (xs ++ [X]) v) (hg : w.grownBy w8 (some g1)) (hv : v = .slice (some ⟨g1, 0, none⟩) (xs.length + 1) n1) :
  CP A b C g1 g2 n1 n2 k n s (xs ++ [X]) fs (w8.setCell ⟨b, 3, none⟩ v) ∧ Below A w (w8.setCell ⟨b, 3, none⟩ v) := by
 subst hv
 have hb8 : w8.heap[b]? = w.heap[b]? := hg.block b (Nat.lt_of_lt_of_le h.hb h.size) (fun e => h.d1 (by injection e with e; exact e.symm))
 have hr := row_setCell (j := 3) (u := .slice (some ⟨g1, 0, none⟩) (xs.length + 1) n1) (hb8.trans h.row)
 have hlen : (xs ++ [X]).length = xs.length + 1 := by simp
 have hF8 : OwnG RdFl 6 A C 54 w8 fs (.slice (some ⟨g2, 0, none⟩) fs.length n2) := h.ownF.keep fldRel hg.size
  (fun c hc => by simp only [Value.ownBlock, Option.some.injEq] at hc; subst hc; exact hg.block _ (Nat.lt_of_lt_of_le h.h2 h.size) (fun e => h.d12 (by injection e with e; exact e.symm)))
  (fun c hc => hg.block c hc.2.1 (fun e => by injection e with e; have := hc.1; have := h.h1; omega))
 refine ⟨⟨?_, ?_, hF8.box fldRel _ _ (fun e => h.d2 (by simpa [Value.ownBlock] using e)) h.hb, h.lo, h.hb, h.h1, h.h2, h.d1, h.d2, h.d12, ?_⟩, ?_⟩
 ·rw [hr, hlen]; rfl
 ·rw [hlen]
  exact ho.box valRel _ _ (fun e => h.d1 (by simpa [Value.ownBlock] using e)) h.hb
 ·exact Nat.le_trans h.size (by simpa [World.setCell] using hg.size)
 ·refine Below.setCell (p := ⟨b, 3, none⟩) ?_ h.lo _
  exact ⟨hg.os, hg.tape, hg.output, hg.size, fun c hc => hg.block c (by have := h.hb; have := h.lo; have := h.size; omega) (fun e => by injection e with e; have := (h.ownL.lt g1 rfl).1; omega)⟩
theorem CP.pushF {X : ByteArray × PVal} {v : Value} {w8 : World} (h : CP A b C g1 g2 n1 n2 k n s xs fs w) (ho : OwnG RdFl 6 A C 54 w8 (fs ++ [X]) v) (hg : w.grownBy w8 (some g2)) (hv : v = .slice (some ⟨g2, 0, none⟩) (fs.length + 1) n2) :
  CP A b C g1 g2 n1 n2 k n s xs (fs ++ [X]) (w8.setCell ⟨b, 4, none⟩ v) ∧ Below A w (w8.setCell ⟨b, 4, none⟩ v) := by
 subst hv
 have hb8 : w8.heap[b]? = w.heap[b]? := hg.block b (Nat.lt_of_lt_of_le h.hb h.size) (fun e => h.d2 (by injection e with e; exact e.symm))
 have hr := row_setCell (j := 4) (u := .slice (some ⟨g2, 0, none⟩) (fs.length + 1) n2) (hb8.trans h.row)
 have hlen : (fs ++ [X]).length = fs.length + 1 := by simp
 have hL8 : OwnG Rd 5 A C 25 w8 xs (.slice (some ⟨g1, 0, none⟩) xs.length n1) := h.ownL.keep valRel hg.size
  (fun c hc => by simp only [Value.ownBlock, Option.some.injEq] at hc; subst hc; exact hg.block _ (Nat.lt_of_lt_of_le h.h1 h.size) (fun e => h.d12 (by injection e)))
  (fun c hc => hg.block c hc.2.1 (fun e => by injection e with e; have := hc.1; have := h.h2; omega))
 refine ⟨⟨?_, hL8.box valRel _ _ (fun e => h.d1 (by simpa [Value.ownBlock] using e)) h.hb, ?_, h.lo, h.hb, h.h1, h.h2, h.d1, h.d2, h.d12, ?_⟩, ?_⟩
 ·rw [hr, hlen]; rfl
 ·rw [hlen]
  exact ho.box fldRel _ _ (fun e => h.d2 (by simpa [Value.ownBlock] using e)) h.hb
 ·exact Nat.le_trans h.size (by simpa [World.setCell] using hg.size)
 ·refine Below.setCell (p := ⟨b, 4, none⟩) ?_ h.lo _
  exact ⟨hg.os, hg.tape, hg.output, hg.size, fun c hc => hg.block c (by have := h.hb; have := h.lo; have := h.size; omega) (fun e => by injection e with e; have := (h.ownF.lt g2 rfl).1; omega)⟩
end
theorem al_at {w : World} {o : Obj} {g : Nat} (hg : g = w.heap.size) : (w.alloc o).heap[g]? = some o := by subst hg; exact heap_alloc_new w o
theorem al_old {w : World} {o r : Obj} {g : Nat} (h : w.heap[g]? = some r) : (w.alloc o).heap[g]? = some r := ((below_new w o).block g (lt_of_block h)).trans h
theorem dr_at {w : World} {r : Obj} {g : Nat} (h : w.heap[g]? = some r) : w.drew.heap[g]? = some r := h
theorem s5_of {w : World} {g : Nat} {v0 v1 v2 v3 v4 : Value} {t : TypeId} (h : w.heap[g]? = some (.cells #[v0, v1, v2, v3, v4] t (0, 0))) :
  w.cell? ⟨g, 0, none⟩ = some v0 ∧ w.cell? ⟨g, 1, none⟩ = some v1 ∧ w.cell? ⟨g, 2, none⟩ = some v2 ∧ w.cell? ⟨g, 3, none⟩ = some v3 ∧ w.cell? ⟨g, 4, none⟩ = some v4 :=
 ⟨box_at h rfl, box_at h rfl, box_at h rfl, box_at h rfl, box_at h rfl⟩
theorem made_row {w : World} {A g e cap size : Nat} {cur : Array Value} (h : w.heap[g]? = some (.cells cur e (0, 0))) (hA : A ≤ g) (hc : cap ≤ maxLen) (hs : cur.size = cap * size) : w.ownsRow A e size (.slice (some ⟨g, 0, none⟩) 0 cap) 0 [] :=
 ⟨by simp, .inr ⟨g, cap, cur, rfl, hA, h, by omega, hc, hs, by simp⟩⟩
theorem cp_far {g c a C : Nat} (e : g = c) (h1 : a ≤ c) (h2 : C ≤ a) (h3 : g < C) : False := by omega
def CpyS (b bx : Nat) (vL v0 v1 v2 v3 v4 : Value) (w' : World) : Prop :=
 w'.cell? ⟨b, 3, none⟩ = some vL ∧ w'.cell? ⟨bx, 0, none⟩ = some v0 ∧ w'.cell? ⟨bx, 1, none⟩ = some v1 ∧ w'.cell? ⟨bx, 2, none⟩ = some v2 ∧ w'.cell? ⟨bx, 3, none⟩ = some v3 ∧ w'.cell? ⟨bx, 4, none⟩ = some v4
theorem cpyS_mk {b bx : Nat} {cs : Array Value} {vL v0 v1 v2 v3 v4 : Value} {t : TypeId} {w w' : World} (hb : w.heap[b]? = some (.cells cs 25 (0, 0))) (hL : cs[3]? = some vL) (hx : w.heap[bx]? = some (.cells #[v0, v1, v2, v3, v4] t (0, 0)))
  (h1 : w'.heap[b]? = w.heap[b]?) (h2 : w'.heap[bx]? = w.heap[bx]?) : CpyS b bx vL v0 v1 v2 v3 v4 w' :=
 ⟨box_at (h1.trans hb) hL, box_at (h2.trans hx) rfl, box_at (h2.trans hx) rfl, box_at (h2.trans hx) rfl, box_at (h2.trans hx) rfl, box_at (h2.trans hx) rfl⟩
def CpyF (b bx : Nat) (vF v0 v1 v2 v3 v4 v5 : Value) (w' : World) : Prop :=
 w'.cell? ⟨b, 4, none⟩ = some vF ∧ w'.cell? ⟨bx, 0, none⟩ = some v0 ∧ w'.cell? ⟨bx, 1, none⟩ = some v1 ∧ w'.cell? ⟨bx, 2, none⟩ = some v2 ∧ w'.cell? ⟨bx, 3, none⟩ = some v3 ∧ w'.cell? ⟨bx, 4, none⟩ = some v4 ∧ w'.cell? ⟨bx, 5, none⟩ = some v5
theorem cpyF_mk {b bx : Nat} {cs : Array Value} {vF v0 v1 v2 v3 v4 v5 : Value} {t : TypeId} {w w' : World} (hb : w.heap[b]? = some (.cells cs 25 (0, 0))) (hL : cs[4]? = some vF) (hx : w.heap[bx]? = some (.cells #[v0, v1, v2, v3, v4, v5] t (0, 0)))
  (h1 : w'.heap[b]? = w.heap[b]?) (h2 : w'.heap[bx]? = w.heap[bx]?) : CpyF b bx vF v0 v1 v2 v3 v4 v5 w' :=
 ⟨box_at (h1.trans hb) hL, box_at (h2.trans hx) rfl, box_at (h2.trans hx) rfl, box_at (h2.trans hx) rfl, box_at (h2.trans hx) rfl, box_at (h2.trans hx) rfl, box_at (h2.trans hx) rfl⟩
end Go.Proofs.YthjihdpleclejaaGreatDoor
