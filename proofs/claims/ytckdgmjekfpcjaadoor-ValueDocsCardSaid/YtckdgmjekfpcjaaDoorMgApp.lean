/-
  append of bytes that came in (nil or not) to a row of the call's own; what such a row reads as. No condition.
  Walk: a value copied into new memory. No condition.
-/
import Derived.Test.YtckdgmjekfpcjaaDoorMgHel
import Derived.Laws.AppendOwnNone
import Derived.Laws.OwnMore
import Derived.Test.YtckdgmjekfpcjaaDoorMgVal12
import Derived.Deep.RegionHeld3
import Derived.Deep.CutBlock
namespace Go.Proofs.YtckdgmjekfpcjaaDoor
open Go.RowKit Go.Proofs

/-- append of a slice, nil or not, to a slice that the call owns. -/
theorem wpList_append_own_any {P : Program} (w : World) {ops : Array Oper} {rest : List Oper} {o : Oper} {a : Act} {Q : Exit → Act → World → Prop} (hgd : o.guard = none) (s x : Operand) (t : TypeId)
    (ho : o.op = .call { callee := .builtin .append, args := #[s, x], argTypes := #[t, t] })
    (base : Nat) (e : TypeId) (i : TypeInfo) (z : Value) (size bytes : Nat) (ht : P.underlying t = some (.slice e)) (hi : P.info? e = some i) (hz : i.zero = some z)
    (hsize : i.size = size) (hby : i.bytes = bytes) (hzs : z.cells.size = size) (hsz : 0 < size)
    (v : Value) (n : Nat) (xs : List Value) (hs : a.eval s = v) (hown : w.ownsRow base e size v n xs)
    (ao : Option Addr) (m c : Nat) (news : List Value) (hx : a.eval x = .slice ao m c) (hl : news.length = m * size) (hnone : ao = none → m = 0 ∧ c = 0) (hnews : ∀ ad, ao = some ad → ∀ j u, news[j]? = some u → w.cell? (ad.add j) = some u) (h1 : ∀ u ∈ news, u.oneCell' = true)
    (h63 : n + m ≤ maxLen) (hbytes : (n + m) * bytes ≤ 140737488355328) (hbase : base ≤ w.heap.size)
    (h : ∀ v' w', w'.ownsRow base e size v' (n + m) (xs ++ news) → w.grownBy w' v.ownBlock → wpList P ops Q rest (a.put o.dst v') w') : wpList P ops Q (o :: rest) a w := by
  cases ao with
  | none =>
    obtain ⟨rfl, rfl⟩ := hnone rfl
    obtain rfl : news = [] := List.eq_nil_of_length_eq_zero (by simpa using hl)
    refine wpList_append_own_none hgd s x t ho base e i size ht hi v n xs hs hown hx ?_
    exact h v w (by simpa using hown) ⟨rfl, rfl, rfl, Nat.le_refl _, fun _ _ _ => rfl⟩
  | some ad => exact wpList_append_own w hgd s x t ho base e i z size bytes ht hi hz hsize hby hzs hsz v n xs hs hown ad m c news hx hl (hnews ad rfl) h1 h63 hbytes hbase fun v' w' h2 h3 _ => h v' w' h2 h3
theorem addr_at (b off n : Nat) : (⟨b, off, none⟩ : Addr).add n = ⟨b, off + n, none⟩ := by
  unfold Addr.add
  split
  · rename_i h; rw [h]; rfl
  · rfl
theorem own_cap {w : World} {B e g n cap k : Nat} {xs : List Value} (h : w.ownsRow B e 1 (.slice (some ⟨g, 0, none⟩) n cap) k xs) : n ≤ cap ∧ cap ≤ 9223372036854775807 := by
  rcases h.2 with ⟨h1, _⟩ | ⟨g', cap', cur, hv, _, _, hc, hm, _⟩
  · cases h1
  · injection hv with _ e2 e3
    subst e2 e3
    exact ⟨hc, by unfold maxLen at hm; omega⟩
end Go.Proofs.YtckdgmjekfpcjaaDoor

namespace Go.Proofs.YtckdgmjekfpcjaaDoor
open Go.RowKit Go.Proofs

theorem info_fldc : (Tryd.prog.info? 33).map (fun i => (i.zero, i.size, i.bytes)) = some (some (.agg #[.string ByteArray.empty, .int .i64 0, .int .i64 0, .string ByteArray.empty, .slice none 0 0, .slice none 0 0]), 6, 96) := by kernel_rfl

theorem grownBy_none {a w : World} {b : Option Nat} (h : a.grownBy w b) (hb : b = none) : Below a.heap.size a w := by subst hb; exact grown_below h
/-- The lists among a value's cells lie in blocks from B on, and may be written. -/
def Thaw (B : Nat) (w : World) (cs : List Value) : Prop := ∀ (j : Nat) (ad : Addr) (n c : Nat), cs[j]? = some (.slice (some ad) n c) → B ≤ ad.block ∧ ad.block < w.heap.size ∧ ∀ off, w.frozen? ⟨ad.block, off, none⟩ = false
theorem Thaw.keep {B B' : Nat} {w w' : World} {cs : List Value} (h : Thaw B w cs) (hB : B' ≤ B) (hsz : w.heap.size ≤ w'.heap.size) (hb : ∀ b, B ≤ b → b < w.heap.size → w'.heap[b]? = w.heap[b]?) : Thaw B' w' cs := fun j ad n c hj => by
  obtain ⟨h1, h2, h3⟩ := h j ad n c hj
  refine ⟨Nat.le_trans hB h1, Nat.lt_of_lt_of_le h2 hsz, fun off => ?_⟩
  rw [← h3 off]
  unfold World.frozen?
  rw [hb _ h1 h2]
theorem Thaw.mk2 {B : Nat} {w : World} {k n : Int} {s : ByteArray} {g1 g2 l1 l2 c1 c2 : Nat} (h1 : B ≤ g1 ∧ g1 < w.heap.size) (f1 : ∀ off, w.frozen? ⟨g1, off, none⟩ = false) (h2 : B ≤ g2 ∧ g2 < w.heap.size) (f2 : ∀ off, w.frozen? ⟨g2, off, none⟩ = false) :
    Thaw B w [.int .i64 k, .int .i64 n, .string s, .slice (some ⟨g1, 0, none⟩) l1 c1, .slice (some ⟨g2, 0, none⟩) l2 c2] := fun j ad n c hj => by
  match j, hj with
  | 0, hj => simp at hj
  | 1, hj => simp at hj
  | 2, hj => simp at hj
  | 3, hj =>
    simp at hj
    obtain ⟨rfl, _⟩ := hj
    exact ⟨h1.1, h1.2, f1⟩
  | 4, hj =>
    simp at hj
    obtain ⟨rfl, _⟩ := hj
    exact ⟨h2.1, h2.2, f2⟩
  | j + 5, hj => simp at hj
/-- What the copy has of lists so far. -/
structure CP (A b C g1 g2 n1 n2 : Nat) (k n : Int) (s : ByteArray) (xs : List PVal) (fs : List (ByteArray × PVal)) (w : World) : Prop where
  row : w.heap[b]? = some (.cells #[.int .i64 k, .int .i64 n, .string s, .slice (some ⟨g1, 0, none⟩) xs.length n1, .slice (some ⟨g2, 0, none⟩) fs.length n2] 27 (0, 0))
  ownL : OwnG Rd 5 A C 27 w xs (.slice (some ⟨g1, 0, none⟩) xs.length n1)
  ownF : OwnG RdFl 6 A C 33 w fs (.slice (some ⟨g2, 0, none⟩) fs.length n2)
  lo : A ≤ b
  hb : b < C
  h1 : g1 < C
  h2 : g2 < C
  d1 : g1 ≠ b
  d2 : g2 ≠ b
  d12 : g1 ≠ g2
  size : C ≤ w.heap.size
section
variable {A b C g1 g2 n1 n2 : Nat} {k n : Int} {s : ByteArray} {xs : List PVal} {fs : List (ByteArray × PVal)} {w w' : World}
theorem CP.later (h : CP A b C g1 g2 n1 n2 k n s xs fs w) (hb : Below w.heap.size w w') : CP A b C g1 g2 n1 n2 k n s xs fs w' :=
  ⟨(hb.block b (Nat.lt_of_lt_of_le h.hb h.size)).trans h.row, h.ownL.later valRel hb, h.ownF.later fldRel hb, h.lo, h.hb, h.h1, h.h2, h.d1, h.d2, h.d12, Nat.le_trans h.size hb.size⟩
theorem CP.ownL1 (h : CP A b C g1 g2 n1 n2 k n s xs fs w) : g1 < w.heap.size := Nat.lt_of_lt_of_le h.h1 h.size
theorem CP.cell (h : CP A b C g1 g2 n1 n2 k n s xs fs w) {j : Nat} {v : Value} (hj : (#[.int .i64 k, .int .i64 n, .string s, .slice (some ⟨g1, 0, none⟩) xs.length n1, .slice (some ⟨g2, 0, none⟩) fs.length n2] : Array Value)[j]? = some v) : w.cell? ⟨b, j, none⟩ = some v := box_at h.row hj
theorem CP.free (h : CP A b C g1 g2 n1 n2 k n s xs fs w) (j : Nat) : w.frozen? ⟨b, j, none⟩ = false := box_free h.row j
theorem CP.pushL {X : PVal} {v : Value} {w8 : World} (h : CP A b C g1 g2 n1 n2 k n s xs fs w) (ho : OwnG Rd 5 A C 27 w8 (xs ++ [X]) v) (hg : w.grownBy w8 (some g1)) (hv : v = .slice (some ⟨g1, 0, none⟩) (xs.length + 1) n1) :
    CP A b C g1 g2 n1 n2 k n s (xs ++ [X]) fs (w8.setCell ⟨b, 3, none⟩ v) ∧ Below A w (w8.setCell ⟨b, 3, none⟩ v) := by
  subst hv
  have hb8 : w8.heap[b]? = w.heap[b]? := hg.block b (Nat.lt_of_lt_of_le h.hb h.size) (fun e => h.d1 (by injection e with e; exact e.symm))
  have hr := row_setCell (j := 3) (u := .slice (some ⟨g1, 0, none⟩) (xs.length + 1) n1) (hb8.trans h.row)
  have hlen : (xs ++ [X]).length = xs.length + 1 := by simp
  have hF8 : OwnG RdFl 6 A C 33 w8 fs (.slice (some ⟨g2, 0, none⟩) fs.length n2) := h.ownF.keep fldRel hg.size
    (fun c hc => by simp only [Value.ownBlock, Option.some.injEq] at hc; subst hc; exact hg.block _ (Nat.lt_of_lt_of_le h.h2 h.size) (fun e => h.d12 (by injection e with e; exact e.symm)))
    (fun c hc => hg.block c hc.2.1 (fun e => by injection e with e; have := hc.1; have := h.h1; omega))
  refine ⟨⟨?_, ?_, hF8.box fldRel _ _ (fun e => h.d2 (by simpa [Value.ownBlock] using e)) h.hb, h.lo, h.hb, h.h1, h.h2, h.d1, h.d2, h.d12, ?_⟩, ?_⟩
  · rw [hr, hlen]; rfl
  · rw [hlen]
    exact ho.box valRel _ _ (fun e => h.d1 (by simpa [Value.ownBlock] using e)) h.hb
  · exact Nat.le_trans h.size (by simpa [World.setCell] using hg.size)
  · refine Below.setCell (p := ⟨b, 3, none⟩) ?_ h.lo _
    exact ⟨hg.os, hg.tape, hg.output, hg.size, fun c hc => hg.block c (by have := h.hb; have := h.lo; have := h.size; omega) (fun e => by injection e with e; have := (h.ownL.lt g1 rfl).1; omega)⟩
theorem CP.pushF {X : ByteArray × PVal} {v : Value} {w8 : World} (h : CP A b C g1 g2 n1 n2 k n s xs fs w) (ho : OwnG RdFl 6 A C 33 w8 (fs ++ [X]) v) (hg : w.grownBy w8 (some g2)) (hv : v = .slice (some ⟨g2, 0, none⟩) (fs.length + 1) n2) :
    CP A b C g1 g2 n1 n2 k n s xs (fs ++ [X]) (w8.setCell ⟨b, 4, none⟩ v) ∧ Below A w (w8.setCell ⟨b, 4, none⟩ v) := by
  subst hv
  have hb8 : w8.heap[b]? = w.heap[b]? := hg.block b (Nat.lt_of_lt_of_le h.hb h.size) (fun e => h.d2 (by injection e with e; exact e.symm))
  have hr := row_setCell (j := 4) (u := .slice (some ⟨g2, 0, none⟩) (fs.length + 1) n2) (hb8.trans h.row)
  have hlen : (fs ++ [X]).length = fs.length + 1 := by simp
  have hL8 : OwnG Rd 5 A C 27 w8 xs (.slice (some ⟨g1, 0, none⟩) xs.length n1) := h.ownL.keep valRel hg.size
    (fun c hc => by simp only [Value.ownBlock, Option.some.injEq] at hc; subst hc; exact hg.block _ (Nat.lt_of_lt_of_le h.h1 h.size) (fun e => h.d12 (by injection e)))
    (fun c hc => hg.block c hc.2.1 (fun e => by injection e with e; have := hc.1; have := h.h2; omega))
  refine ⟨⟨?_, hL8.box valRel _ _ (fun e => h.d1 (by simpa [Value.ownBlock] using e)) h.hb, ?_, h.lo, h.hb, h.h1, h.h2, h.d1, h.d2, h.d12, ?_⟩, ?_⟩
  · rw [hr, hlen]; rfl
  · rw [hlen]
    exact ho.box fldRel _ _ (fun e => h.d2 (by simpa [Value.ownBlock] using e)) h.hb
  · exact Nat.le_trans h.size (by simpa [World.setCell] using hg.size)
  · refine Below.setCell (p := ⟨b, 4, none⟩) ?_ h.lo _
    exact ⟨hg.os, hg.tape, hg.output, hg.size, fun c hc => hg.block c (by have := h.hb; have := h.lo; have := h.size; omega) (fun e => by injection e with e; have := (h.ownF.lt g2 rfl).1; omega)⟩
end

theorem al_at {w : World} {o : Obj} {g : Nat} (hg : g = w.heap.size) : (w.alloc o).heap[g]? = some o := by subst hg; exact heap_alloc_new w o
theorem al_old {w : World} {o r : Obj} {g : Nat} (h : w.heap[g]? = some r) : (w.alloc o).heap[g]? = some r := ((below_new w o).block g (lt_of_block h)).trans h
theorem dr_at {w : World} {r : Obj} {g : Nat} (h : w.heap[g]? = some r) : w.drew.heap[g]? = some r := h
theorem s5_of {w : World} {g : Nat} {v0 v1 v2 v3 v4 : Value} {t : TypeId} (h : w.heap[g]? = some (.cells #[v0, v1, v2, v3, v4] t (0, 0))) :
    w.cell? ⟨g, 0, none⟩ = some v0 ∧ w.cell? ⟨g, 1, none⟩ = some v1 ∧ w.cell? ⟨g, 2, none⟩ = some v2 ∧ w.cell? ⟨g, 3, none⟩ = some v3 ∧ w.cell? ⟨g, 4, none⟩ = some v4 :=
  ⟨box_at h rfl, box_at h rfl, box_at h rfl, box_at h rfl, box_at h rfl⟩
theorem made_row {w : World} {A g e cap size : Nat} {cur : Array Value} (h : w.heap[g]? = some (.cells cur e (0, 0))) (hA : A ≤ g) (hc : cap ≤ maxLen) (hs : cur.size = cap * size) : w.ownsRow A e size (.slice (some ⟨g, 0, none⟩) 0 cap) 0 [] :=
  ⟨by simp, .inr ⟨g, cap, cur, rfl, hA, h, by omega, hc, hs, by simp⟩⟩
theorem cp_new {A b g1 g2 n1 n2 : Nat} {k n : Int} {s : ByteArray} {w : World} {c1 c2 : Array Value} (hb : w.heap[b]? = some (.cells #[.int .i64 k, .int .i64 n, .string s, .slice (some ⟨g1, 0, none⟩) 0 n1, .slice (some ⟨g2, 0, none⟩) 0 n2] 27 (0, 0)))
    (h1 : w.heap[g1]? = some (.cells c1 27 (0, 0))) (h2 : w.heap[g2]? = some (.cells c2 33 (0, 0))) (s1 : c1.size = n1 * 5) (s2 : c2.size = n2 * 6) (l1 : n1 ≤ 1759218604441) (l2 : n2 ≤ 1466015503701)
    (d1 : g1 ≠ b) (d2 : g2 ≠ b) (d12 : g1 ≠ g2) (a0 : A ≤ b) (a1 : A ≤ g1) (a2 : A ≤ g2) : CP A b w.heap.size g1 g2 n1 n2 k n s [] [] w :=
  ⟨hb, OwnG.empty (made_row h1 a1 (by unfold maxLen; omega) s1), OwnG.empty (made_row h2 a2 (by unfold maxLen; omega) s2), a0, lt_of_block hb, lt_of_block h1, lt_of_block h2, d1, d2, d12, Nat.le_refl _⟩
theorem cp_far {g c a C : Nat} (e : g = c) (h1 : a ≤ c) (h2 : C ≤ a) (h3 : g < C) : False := by omega
theorem cp_apart {A b C g1 g2 n1 n2 m1 m2 : Nat} {k n : Int} {s : ByteArray} {xs : List PVal} {fs : List (ByteArray × PVal)} {w w6 : World} {o : Obj} (h : CP A b C g1 g2 n1 n2 k n s xs fs w) {c : Nat} (hc : From w.heap.size w6 c) : Apart C (w6.alloc o) (.slice (some ⟨g1, 0, none⟩) m1 m2) c :=
  ⟨by have := hc.1; have := h.size; omega, by have := hc.2; simp; omega, fun e => cp_far (by simpa [Value.ownBlock] using e) hc.1 h.size h.h1⟩
theorem cp_apartF {A b C g1 g2 n1 n2 m1 m2 : Nat} {k n : Int} {s : ByteArray} {xs : List PVal} {fs : List (ByteArray × PVal)} {w w6 : World} {o : Obj} (h : CP A b C g1 g2 n1 n2 k n s xs fs w) {c : Nat} (hc : From w.heap.size w6 c) : Apart C (w6.alloc o) (.slice (some ⟨g2, 0, none⟩) m1 m2) c :=
  ⟨by have := hc.1; have := h.size; omega, by have := hc.2; simp; omega, fun e => cp_far (by simpa [Value.ownBlock] using e) hc.1 h.size h.h2⟩
/-- What the region at a list's value reads: the copy's list so far, the value. -/
def CpyS (b bx : Nat) (vL v0 v1 v2 v3 v4 : Value) (w' : World) : Prop :=
  w'.cell? ⟨b, 3, none⟩ = some vL ∧ w'.cell? ⟨bx, 0, none⟩ = some v0 ∧ w'.cell? ⟨bx, 1, none⟩ = some v1 ∧ w'.cell? ⟨bx, 2, none⟩ = some v2 ∧ w'.cell? ⟨bx, 3, none⟩ = some v3 ∧ w'.cell? ⟨bx, 4, none⟩ = some v4
theorem cpyS_mk {b bx : Nat} {cs : Array Value} {vL v0 v1 v2 v3 v4 : Value} {t : TypeId} {w w' : World} (hb : w.heap[b]? = some (.cells cs 27 (0, 0))) (hL : cs[3]? = some vL) (hx : w.heap[bx]? = some (.cells #[v0, v1, v2, v3, v4] t (0, 0)))
    (h1 : w'.heap[b]? = w.heap[b]?) (h2 : w'.heap[bx]? = w.heap[bx]?) : CpyS b bx vL v0 v1 v2 v3 v4 w' :=
  ⟨box_at (h1.trans hb) hL, box_at (h2.trans hx) rfl, box_at (h2.trans hx) rfl, box_at (h2.trans hx) rfl, box_at (h2.trans hx) rfl, box_at (h2.trans hx) rfl⟩
/-- What the region at a field reads. -/
def CpyF (b bx : Nat) (vF v0 v1 v2 v3 v4 v5 : Value) (w' : World) : Prop :=
  w'.cell? ⟨b, 4, none⟩ = some vF ∧ w'.cell? ⟨bx, 0, none⟩ = some v0 ∧ w'.cell? ⟨bx, 1, none⟩ = some v1 ∧ w'.cell? ⟨bx, 2, none⟩ = some v2 ∧ w'.cell? ⟨bx, 3, none⟩ = some v3 ∧ w'.cell? ⟨bx, 4, none⟩ = some v4 ∧ w'.cell? ⟨bx, 5, none⟩ = some v5
theorem cpyF_mk {b bx : Nat} {cs : Array Value} {vF v0 v1 v2 v3 v4 v5 : Value} {t : TypeId} {w w' : World} (hb : w.heap[b]? = some (.cells cs 27 (0, 0))) (hL : cs[4]? = some vF) (hx : w.heap[bx]? = some (.cells #[v0, v1, v2, v3, v4, v5] t (0, 0)))
    (h1 : w'.heap[b]? = w.heap[b]?) (h2 : w'.heap[bx]? = w.heap[bx]?) : CpyF b bx vF v0 v1 v2 v3 v4 v5 w' :=
  ⟨box_at (h1.trans hb) hL, box_at (h2.trans hx) rfl, box_at (h2.trans hx) rfl, box_at (h2.trans hx) rfl, box_at (h2.trans hx) rfl, box_at (h2.trans hx) rfl, box_at (h2.trans hx) rfl⟩

set_option maxRecDepth 100000 in
set_option maxHeartbeats 4000000 in
theorem copy_calls : ∀ (V : PVal) (w : World) (cs : List Value), Rd w (Now w) V cs →
    Calls Tryd.prog 20 #[.agg cs.toArray] w fun e w' => ∃ cs', e = .returned (.agg cs'.toArray) ∧ Rd w' (From w.heap.size w') V cs' ∧ Below w.heap.size w w' ∧ Thaw w.heap.size w' cs' := by
  intro V
  induction hN : V.nodes using Nat.strongRecOn generalizing V with
  | _ N ih =>
  subst hN
  intro w cs hV
  obtain ⟨k, n, s, l, fn, fv⟩ := V
  obtain ⟨la, lc, fa, fc, rfl, hk, hn, hs, hlc, hlm, hfc, hfm, hL, hF⟩ := hV.inv
  have hfe := hid hF.1
  obtain ⟨i0, hi, hz0, hz1, hz2⟩ := info_parts info52
  obtain ⟨i1, hj, hy0, hy1, hy2⟩ := info_parts info_fldc
  have hm1 : ∀ w : World, (Instr.makeSlice 25 (.int .i64 0) (.int .i64 (l.length : Int))).run Tryd.prog w = .ok (.slice (some ⟨w.heap.size, 0, none⟩) 0 l.length) (w.alloc (.cells (madeCells (Value.agg #[.int .i64 0, .int .i64 0, .string ByteArray.empty, .slice none 0 0, .slice none 0 0]).cells (l.length * 5)) 27)) := fun w => by
    have h := run_make (P := Tryd.prog) w 25 27 i0 _ Tryd.underlying25 hi hz0 .i64 .i64 0 l.length (by omega) (by omega) (by rw [hz2]; omega) (by omega)
    rw [hz1] at h
    exact h
  have hm2 : ∀ w : World, (Instr.makeSlice 22 (.int .i64 0) (.int .i64 (fv.length : Int))).run Tryd.prog w = .ok (.slice (some ⟨w.heap.size, 0, none⟩) 0 fv.length) (w.alloc (.cells (madeCells (Value.agg #[.string ByteArray.empty, .int .i64 0, .int .i64 0, .string ByteArray.empty, .slice none 0 0, .slice none 0 0]).cells (fv.length * 6)) 33)) := fun w => by
    have h := run_make (P := Tryd.prog) w 22 33 i1 _ Tryd.underlying22 hj hy0 .i64 .i64 0 fv.length (by omega) (by omega) (by rw [hy2]; omega) (by omega)
    rw [hy1] at h
    exact h
  obtain ⟨W2, hW2⟩ : ∃ W2, W2 = (w.alloc (.cells #[.int .i64 k, .int .i64 n, .string s, .slice la l.length lc, .slice fa fv.length fc] 27)).alloc (.cells #[.int .i64 0, .int .i64 0, .string ByteArray.empty, .slice none 0 0, .slice none 0 0] 27) := ⟨_, rfl⟩
  have hWs : W2.heap.size = w.heap.size + 2 := by rw [hW2]; simp
  have hWs0 := hid hWs
  have k1 : Hid (∀ w', Below W2.heap.size W2 w' → Below w.heap.size w w') := fun w' h => by rw [hW2] at h; exact ((below_new _ _).step (below_new _ _)).step h
  have kc : Hid (∀ w', Below W2.heap.size W2 w' → ∀ (j : Nat) (v : Value), (#[.int .i64 k, .int .i64 n, .string s, .slice la l.length lc, .slice fa fv.length fc] : Array Value)[j]? = some v → w'.cell? ⟨w.heap.size, j, none⟩ = some v) := fun w' h j v hj => by rw [hW2] at h; exact box_cell ((below_new _ _).step h) hj
  have kz : Hid (∀ w', Below W2.heap.size W2 w' → w'.heap[w.heap.size + 1]? = some (.cells #[.int .i64 0, .int .i64 0, .string ByteArray.empty, .slice none 0 0, .slice none 0 0] 27 (0, 0))) := fun w' h => by
    rw [hW2] at h
    exact (h.block _ (by simp)).trans (al_at (by simp))
  replace hW2 := hid hW2
  have hL0 := hid hL
  have hF0 := hid hF
  have hih := hid (fun (x : PVal) (hx : x.nodes < (PVal.mk k n s l fn fv).nodes) (w : World) (cs : List Value) (h : Rd w (Now w) x cs) => ih x.nodes hx x rfl w cs h)
  clear ih hL hF hWs
  go_enter Tryd.func20, Tryd.ntmps20
  go_upto_region 1 with fail
  go_cut [3] from 8 to 22 (fun s3 wx => ∃ b g1 g2, s3 = .pointer (some ⟨b, 0, none⟩) ∧ CP (w.heap.size + 2) b wx.heap.size g1 g2 l.length fv.length k n s [] [] wx ∧ Below W2.heap.size W2 wx)
  case first =>
    have m1 := size_madeCells (Value.agg #[.int .i64 0, .int .i64 0, .string ByteArray.empty, .slice none 0 0, .slice none 0 0]).cells (l.length * 5)
    have m2 := size_madeCells (Value.agg #[.string ByteArray.empty, .int .i64 0, .int .i64 0, .string ByteArray.empty, .slice none 0 0, .slice none 0 0]).cells (fv.length * 6)
    go_region_held3 (fun w' => w'.cell? ⟨w.heap.size, 0, none⟩ = some (.int .i64 k) ∧ w'.cell? ⟨w.heap.size, 1, none⟩ = some (.int .i64 n) ∧ w'.cell? ⟨w.heap.size, 2, none⟩ = some (.string s) ∧ w'.cell? ⟨w.heap.size, 3, none⟩ = some (.slice la l.length lc) ∧ w'.cell? ⟨w.heap.size, 4, none⟩ = some (.slice fa fv.length fc))
      (first
        | exact s5_of (dr_at (al_old (al_at (w := w) rfl)))
        | exact s5_of (dr_at (al_old (al_old (al_at (w := w) rfl))))
        | exact s5_of (dr_at (al_old (al_old (al_old (al_at (w := w) rfl)))))
        | exact s5_of (dr_at (al_old (al_old (al_old (al_old (al_at (w := w) rfl)))))))
      (fail)
    all_goals
      go_wp2_with fail
      go_meet
      refine' ⟨_, _, _, rfl, cp_new ?hb ?h1 ?h2 m1 m2 hlm.2 hfm.2 ?d1 ?d2 ?d12 ?a0 ?a1 ?a2, ?bl⟩
      case hb => first | exact dr_at (al_at (by simp)) | exact dr_at (al_old (al_at (by simp))) | exact dr_at (al_old (al_old (al_at (by simp)))) | trace_state
      case h1 => first | exact dr_at (al_at (by simp)) | exact dr_at (al_old (al_at (by simp))) | exact dr_at (al_old (al_old (al_at (by simp)))) | trace_state
      case h2 => first | exact dr_at (al_at (by simp)) | exact dr_at (al_old (al_at (by simp))) | exact dr_at (al_old (al_old (al_at (by simp)))) | trace_state
      case d1 => omega
      case d2 => omega
      case d12 => omega
      case a0 => omega
      case a1 => omega
      case a2 => omega
      case bl => rw [hW2.out]; exact ((((Below.refl _ _).alloc (by simp) _).alloc (by simp; try omega) _).alloc (by simp; try omega) _).drew
  case rest =>
    obtain ⟨b, g1, g2, rfl, hcp, hN⟩ := hcut
    have hcp0 := hid hcp
    have N0 := hid hN
    have a3 : wc.cell? ⟨w.heap.size, 3, none⟩ = some (.slice la l.length lc) := kc.out _ hN 3 _ rfl
    clear hcp hN
    go_wp2_with fail
    go_loopg [26] l.length (fun gh i wr => ∃ (m : Nat) (ds : List PVal), gh + m = l.length ∧ i = .int .i64 m ∧ Hid (ds = l.take m) ∧ Hid (CP (w.heap.size + 2) b wc.heap.size g1 g2 l.length fv.length k n s ds [] wr) ∧ Hid (Below W2.heap.size W2 wr))
    case atStart => exact ⟨0, [], by omega, rfl, rfl, hcp0, N0⟩
    case round =>
      obtain ⟨m, ds, hm, rfl, hds, hcr, hNr⟩ := hrel
      clear hcp0 N0 a3
      by_cases hlt : m < l.length
      · obtain ⟨x, hx⟩ : ∃ x, l[m]? = some x := ⟨_, List.getElem?_eq_getElem hlt⟩
        have hpr := hL0.out.later (k1.out _ hNr.out)
        obtain ⟨b', off, xs, rfl, hxS, hxc, hxr⟩ := hpr.at_ hx
        have hxn := nodes_mem (List.mem_of_getElem? hx)
        have hxs := hid (take_succ_of hx)
        have hcx := hid (fun w cs h => hih.out x (by simp only [PVal.nodes]; omega) w cs h)
        have hml : Hid (ds.length = m) := by show _ = _; rw [hds.out]; exact List.length_take_of_le (by omega)
        clear hx hpr hxn
        obtain ⟨xk, xn, xt, xl, xfn, xfv⟩ := x
        obtain ⟨xa, xc, xf, xg, rfl, _⟩ := hxr.inv
        obtain ⟨d0, d1, d2, d3, d4⟩ := five hxc
        clear hxc
        have hxr := hid hxr
        go_upto_region 5 with fail
        obtain ⟨wp, hwp⟩ : ∃ wp, wp = wr.alloc (.cells #[.int .i64 xk, .int .i64 xn, .string xt, .slice xa xl.length xc, .slice xf xfv.length xg] 27) := ⟨_, rfl⟩
        have hrx : Hid (wp.heap[wr.heap.size]? = some (.cells #[.int .i64 xk, .int .i64 xn, .string xt, .slice xa xl.length xc, .slice xf xfv.length xg] 27 (0, 0))) := by show _ = _; rw [hwp]; exact heap_alloc_new _ _
        have hNp : Hid (Below wr.heap.size wr wp) := by show Below _ _ _; rw [hwp]; exact below_new _ _
        rw [← hwp]
        replace hwp := hid hwp
        have hsz : Hid (wr.heap.size < wp.heap.size) := lt_of_block hrx.out
        have hcp := hid (hcr.out.later hNp.out)
        have hNq := hid (hNr.out.step hNp.out)
        have hX := hid (hxr.out.later (hNp.out.drew))
        clear d0 d1 d2 d3 d4
        refine wp_region_T (CpyS b wr.heap.size (.slice (some ⟨g1, 0, none⟩) ds.length l.length) (.int .i64 xk) (.int .i64 xn) (.string xt) (.slice xa xl.length xc) (.slice xf xfv.length xg)) 6 (by kernel_rfl) ?_
        have hS0 : CpyS b wr.heap.size (.slice (some ⟨g1, 0, none⟩) ds.length l.length) (.int .i64 xk) (.int .i64 xn) (.string xt) (.slice xa xl.length xc) (.slice xf xfv.length xg) wp.drew := cpyS_mk hcp.out.row rfl hrx.out rfl rfl
        ((refine wpAnyT_take (i := 0) (v := ?_) rfl (by kernel_rfl) (by kernel_rfl) (by kernel_rfl) (by kernel_rfl) (by exact fun _ _ _ h => h) (Or.inl ⟨by rfl, ?_⟩) hS0 ?_; rotate_left 1; focus (intro w hSw; unfold CpyS at hSw; (try dsimp only at hSw); go_simp; try with_reducible rfl); (try simp only [List.getElem_toArray, List.getElem_cons_zero, List.getElem_cons_succ, Act.put, List.setIfInBounds_toArray, List.set_cons_zero, List.set_cons_succ])); (refine wpAnyT_take (i := 1) (v := ?_) rfl (by kernel_rfl) (by kernel_rfl) (by kernel_rfl) (by kernel_rfl) (by exact fun _ _ _ h => h) (Or.inl ⟨by rfl, ?_⟩) hS0 ?_; rotate_left 1; focus (intro w hSw; unfold CpyS at hSw; (try dsimp only at hSw); go_simp; try with_reducible rfl); (try simp only [List.getElem_toArray, List.getElem_cons_zero, List.getElem_cons_succ, Act.put, List.setIfInBounds_toArray, List.set_cons_zero, List.set_cons_succ])); (refine wpAnyT_take (i := 2) (v := ?_) rfl (by kernel_rfl) (by kernel_rfl) (by kernel_rfl) (by kernel_rfl) (by exact fun _ _ _ h => h) (Or.inl ⟨by rfl, ?_⟩) hS0 ?_; rotate_left 1; focus (intro w hSw; unfold CpyS at hSw; (try dsimp only at hSw); go_simp; try with_reducible rfl); (try simp only [List.getElem_toArray, List.getElem_cons_zero, List.getElem_cons_succ, Act.put, List.setIfInBounds_toArray, List.set_cons_zero, List.set_cons_succ])))
        clear hS0
        refine wpAnyT_one (i := 3) (by kernel_rfl) rfl (fun K hK => ?_)
        go_simp
        refine (hcx.out _ _ hX.out).mono ?_
        rintro e w6 ⟨cs6, rfl, hr6, h6, _⟩
        obtain ⟨ya, yc, za, zc, rfl, _⟩ := hr6.inv
        have h6' := hid (show Below wp.heap.size wp w6 from (Below.refl wp.heap.size wp).drew.trans h6)
        have h7 := hid (h6'.out.step (below_new w6 (.cells #[.int .i64 xk, .int .i64 xn, .string xt, .slice ya xl.length yc, .slice za xfv.length zc] 27)))
        have hX6 := hid (hr6.keep (S' := Apart wc.heap.size (w6.alloc (.cells #[.int .i64 xk, .int .i64 xn, .string xt, .slice ya xl.length yc, .slice za xfv.length zc] 27)) (.slice (some ⟨g1, 0, none⟩) ds.length l.length)) (fun c hc => cp_apart hcp.out hc) (fun c hc => (below_new w6 (.cells #[.int .i64 xk, .int .i64 xn, .string xt, .slice ya xl.length yc, .slice za xfv.length zc] 27)).block c hc.2))
        have hcp7 := hid (hcp.out.later h7.out)
        have hlb := hid (Nat.lt_of_lt_of_le hcp.out.hb hcp.out.size)
        have hB7 : Hid (w.heap.size + 2 ≤ (w6.alloc (.cells #[.int .i64 xk, .int .i64 xn, .string xt, .slice ya xl.length yc, .slice za xfv.length zc] 27)).heap.size) := Nat.le_trans hcp7.out.lo (Nat.le_of_lt (Nat.lt_of_lt_of_le hcp7.out.hb hcp7.out.size))
        clear hr6 h6
        (refine hK.out _ _ (fun _ => cpyS_mk hcp.out.row rfl hrx.out (h6'.out.block _ hlb.out) (h6'.out.block _ hsz.out)) (fun _ => ?_); clear hK K; (try simp only [Act.put, List.setIfInBounds_toArray, List.set_cons_zero, List.set_cons_succ]))
        refine wpAnyT_one (i := 4) (by kernel_rfl) rfl (fun K hK => ?_)
        go_simp
        (refine hK.out _ _ (fun _ => cpyS_mk hcp.out.row rfl hrx.out (h7.out.block _ hlb.out) (h7.out.block _ hsz.out)) (fun _ => ?_); clear hK K; (try simp only [Act.put, List.setIfInBounds_toArray, List.set_cons_zero, List.set_cons_succ]))
        refine wpAnyT_one (i := 5) (by kernel_rfl) rfl (fun K hK => ?_)
        refine step_append_g valRel _ rfl _ _ 25 rfl (w.heap.size + 2) wc.heap.size 27 80 i0 _ Tryd.underlying25 hi hz0 hz1 hz2 rfl (by decide) ds _ rfl hcp7.out.ownL ⟨w6.heap.size, 0, none⟩ 1 [.int .i64 xk, .int .i64 xn, .string xt, .slice ya xl.length yc, .slice za xfv.length zc] (.mk xk xn xt xl xfn xfv) rfl (cells_new _ _ rfl _ _) hX6.out (by have := hml.out; omega) (by have := hml.out; unfold maxLen; omega) hB7.out ?_
        intro v8 w8 hown8 hg8 hlow8 hst8
        obtain rfl := hst8 g1 l.length rfl (by have := hml.out; omega)
        have hg8' : World.grownBy _ w8 (some g1) := hg8
        have hp8 := hid (hcp7.out.pushL hown8 hg8' rfl)
        have hb8 := hid (hg8'.block b (Nat.lt_of_lt_of_le hcp7.out.hb hcp7.out.size) (fun e => hcp7.out.d1 (by injection e with e; exact e.symm)))
        have hx8 := hid (hg8'.block wr.heap.size (Nat.lt_of_lt_of_le hsz.out h7.out.size) (fun e => by injection e with e; have := hcr.out.h1; have := hcr.out.size; omega))
        have r8 := hid (hb8.out.trans hcp7.out.row)
        have c3 := box_at (j := 3) r8.out rfl
        have fz := box_free r8.out 3
        clear hown8 hg8 hg8' hlow8 hst8
        (refine hK.out _ _ (fun _ => cpyS_mk hcp.out.row rfl hrx.out (hb8.out.trans (h7.out.block _ hlb.out)) (hx8.out.trans (h7.out.block _ hsz.out))) (fun _ => ?_); clear hK K; (try simp only [Act.put, List.setIfInBounds_toArray]))
        refine wpAnyT_one (i := 6) (by kernel_rfl) rfl (fun K hK => ?_)
        go_simp
        (refine hK.out _ _ (fun h => absurd h (by decide)) (fun _ => ?_); clear hK K; (try simp only [Act.put, List.setIfInBounds_toArray, List.set_cons_zero, List.set_cons_succ]))
        refine wpAnyT_one (i := 7) (by kernel_rfl) rfl (fun K hK => ?_)
        go_simp
        (refine hK.out _ _ (fun h => absurd h (by decide)) (fun _ => ?_); clear hK K; (try simp only [Act.put, List.setIfInBounds_toArray]))
        refine wpAnyT_done (by kernel_rfl) ?_ _
        obtain ⟨q1, q2⟩ := hp8.out
        have hcp9 := hid q1
        have hN9 := hid ((hNq.out.step h7.out).trans (by rw [hWs0.out]; exact q2))
        clear q1 q2 c3 fz
        generalize w8.setCell ⟨b, 3, none⟩ (.slice (some ⟨g1, 0, none⟩) (ds.length + 1) l.length) = w9 at *
        have e7 : IntKind.i64.wrap ((m : Int) + 1) = ((m + 1 : Nat) : Int) := by rw [IntWalk.i64_in _ (by omega)]; omega
        go_wp2_with fail
        go_roundg (l.length - (m + 1))
        case measure => omega
        case rel => exact ⟨m + 1, ds ++ [.mk xk xn xt xl xfn xfv], by omega, by go_num, by show _ = _; rw [hxs.out, hds.out], hcp9, hN9⟩
      · have he : l.take m = l := List.take_of_length_le (by omega)
        obtain rfl : l = ds := (hds.out.trans he).symm
        have a4 : wr.cell? ⟨w.heap.size, 4, none⟩ = some (.slice fa fv.length fc) := kc.out _ hNr.out 4 _ rfl
        clear he hds
        go_wp2_with fail
        clear hlt
        go_loopg [41] fv.length (fun gh i ws => ∃ (m : Nat) (es : List (ByteArray × PVal)), gh + m = fv.length ∧ i = .int .i64 m ∧ Hid (es = (fn.zip fv).take m) ∧ Hid (CP (w.heap.size + 2) b wc.heap.size g1 g2 l.length fv.length k n s l es ws) ∧ Hid (Below W2.heap.size W2 ws))
        case atStart => exact ⟨0, [], by omega, rfl, rfl, hcr, hNr⟩
        case round =>
          obtain ⟨m2, es, hm2, rfl, hes, hcs, hNs⟩ := hrel
          clear hcr hNr a4
          by_cases hlt : m2 < fv.length
          · obtain ⟨x, hx⟩ : ∃ x, fv[m2]? = some x := ⟨_, List.getElem?_eq_getElem hlt⟩
            obtain ⟨nm, hnm⟩ : ∃ nm, fn[m2]? = some nm := ⟨_, List.getElem?_eq_getElem (by have := hfe.out; omega)⟩
            have hzx : (fn.zip fv)[m2]? = some (nm, x) := by rw [List.getElem?_zip_eq_some]; exact ⟨hnm, hx⟩
            obtain ⟨b', off, xs, rfl, hxS, hxc, hxr, hnz⟩ := hF0.out.at_ hnm hx
            have hxn := nodes_mem (List.mem_of_getElem? hx)
            have hxs := hid (take_succ_of hzx)
            have hcx := hid (fun w cs h => hih.out x (by simp only [PVal.nodes]; omega) w cs h)
            have hml : Hid (es.length = m2) := by show _ = _; rw [hes.out, List.length_take, List.length_zip]; have := hfe.out; omega
            have hxr := hid (hxr.later (k1.out _ hNs.out))
            clear hx hxn hnm hzx
            obtain ⟨xk, xn, xt, xl, xfn, xfv⟩ := x
            obtain ⟨xa, xc, xf, xg, rfl, _⟩ := hxr.out.inv
            obtain ⟨d0, d1, d2, d3, d4, d5⟩ := six (cells_later (k1.out _ hNs.out) hxS hxc)
            clear hxc hxS
            replace hnz := hid hnz
            go_upto_region 10 with fail
            obtain ⟨wp, hwp⟩ : ∃ wp, wp = wr.alloc (.cells #[.string nm, .int .i64 xk, .int .i64 xn, .string xt, .slice xa xl.length xc, .slice xf xfv.length xg] 33) := ⟨_, rfl⟩
            have hrx : Hid (wp.heap[wr.heap.size]? = some (.cells #[.string nm, .int .i64 xk, .int .i64 xn, .string xt, .slice xa xl.length xc, .slice xf xfv.length xg] 33 (0, 0))) := by show _ = _; rw [hwp]; exact heap_alloc_new _ _
            have hNp : Hid (Below wr.heap.size wr wp) := by show Below _ _ _; rw [hwp]; exact below_new _ _
            rw [← hwp]
            replace hwp := hid hwp
            have hsz : Hid (wr.heap.size < wp.heap.size) := lt_of_block hrx.out
            have hcp := hid (hcs.out.later hNp.out)
            have hNq := hid (hNs.out.step hNp.out)
            have hX := hid (hxr.out.later (hNp.out.drew))
            clear d0 d1 d2 d3 d4 d5
            refine wp_region_T (CpyF b wr.heap.size (.slice (some ⟨g2, 0, none⟩) es.length fv.length) (.string nm) (.int .i64 xk) (.int .i64 xn) (.string xt) (.slice xa xl.length xc) (.slice xf xfv.length xg)) 10 (by kernel_rfl) ?_
            have hS0 : CpyF b wr.heap.size (.slice (some ⟨g2, 0, none⟩) es.length fv.length) (.string nm) (.int .i64 xk) (.int .i64 xn) (.string xt) (.slice xa xl.length xc) (.slice xf xfv.length xg) wp.drew := cpyF_mk hcp.out.row rfl hrx.out rfl rfl
            ((refine wpAnyT_take (i := 0) (v := ?_) rfl (by kernel_rfl) (by kernel_rfl) (by kernel_rfl) (by kernel_rfl) (by exact fun _ _ _ h => h) (Or.inl ⟨by rfl, ?_⟩) hS0 ?_; rotate_left 1; focus (intro w hSw; unfold CpyF at hSw; (try dsimp only at hSw); go_simp; try with_reducible rfl); (try simp only [List.getElem_toArray, List.getElem_cons_zero, List.getElem_cons_succ, Act.put, List.setIfInBounds_toArray, List.set_cons_zero, List.set_cons_succ])); (refine wpAnyT_take (i := 1) (v := ?_) rfl (by kernel_rfl) (by kernel_rfl) (by kernel_rfl) (by kernel_rfl) (by exact fun _ _ _ h => h) (Or.inl ⟨by rfl, ?_⟩) hS0 ?_; rotate_left 1; focus (intro w hSw; unfold CpyF at hSw; (try dsimp only at hSw); go_simp; try with_reducible rfl); (try simp only [List.getElem_toArray, List.getElem_cons_zero, List.getElem_cons_succ, Act.put, List.setIfInBounds_toArray, List.set_cons_zero, List.set_cons_succ])); (refine wpAnyT_take (i := 2) (v := ?_) rfl (by kernel_rfl) (by kernel_rfl) (by kernel_rfl) (by kernel_rfl) (by exact fun _ _ _ h => h) (Or.inl ⟨by rfl, ?_⟩) hS0 ?_; rotate_left 1; focus (intro w hSw; unfold CpyF at hSw; (try dsimp only at hSw); go_simp; try with_reducible rfl); (try simp only [List.getElem_toArray, List.getElem_cons_zero, List.getElem_cons_succ, Act.put, List.setIfInBounds_toArray, List.set_cons_zero, List.set_cons_succ])); (refine wpAnyT_take (i := 3) (v := ?_) rfl (by kernel_rfl) (by kernel_rfl) (by kernel_rfl) (by kernel_rfl) (by exact fun _ _ _ h => h) (Or.inl ⟨by rfl, ?_⟩) hS0 ?_; rotate_left 1; focus (intro w hSw; unfold CpyF at hSw; (try dsimp only at hSw); go_simp; try with_reducible rfl); (try simp only [List.getElem_toArray, List.getElem_cons_zero, List.getElem_cons_succ, Act.put, List.setIfInBounds_toArray, List.set_cons_zero, List.set_cons_succ])); (refine wpAnyT_take (i := 4) (v := ?_) rfl (by kernel_rfl) (by kernel_rfl) (by kernel_rfl) (by kernel_rfl) (by exact fun _ _ _ h => h) (Or.inl ⟨by rfl, ?_⟩) hS0 ?_; rotate_left 1; focus (intro w hSw; unfold CpyF at hSw; (try dsimp only at hSw); go_simp; try with_reducible rfl); (try simp only [List.getElem_toArray, List.getElem_cons_zero, List.getElem_cons_succ, Act.put, List.setIfInBounds_toArray, List.set_cons_zero, List.set_cons_succ])); (refine wpAnyT_take (i := 5) (v := ?_) rfl (by kernel_rfl) (by kernel_rfl) (by kernel_rfl) (by kernel_rfl) (by exact fun _ _ _ h => h) (Or.inl ⟨by rfl, ?_⟩) hS0 ?_; rotate_left 1; focus (intro w hSw; unfold CpyF at hSw; (try dsimp only at hSw); go_simp; try with_reducible rfl); (try simp only [List.getElem_toArray, List.getElem_cons_zero, List.getElem_cons_succ, Act.put, List.setIfInBounds_toArray, List.set_cons_zero, List.set_cons_succ])))
            clear hS0
            refine wpAnyT_one (i := 6) (by kernel_rfl) rfl (fun K hK => ?_)
            go_simp
            refine (hcx.out _ _ hX.out).mono ?_
            rintro e w6 ⟨cs6, rfl, hr6, h6, _⟩
            obtain ⟨ya, yc, za, zc, rfl, _⟩ := hr6.inv
            have h6' := hid (show Below wp.heap.size wp w6 from (Below.refl wp.heap.size wp).drew.trans h6)
            have h7 := hid (h6'.out.step (below_new w6 (.cells #[.string nm, .int .i64 xk, .int .i64 xn, .string xt, .slice ya xl.length yc, .slice za xfv.length zc] 33)))
            have hX6 := hid (show RdFl (w6.alloc (.cells #[.string nm, .int .i64 xk, .int .i64 xn, .string xt, .slice ya xl.length yc, .slice za xfv.length zc] 33)) (Apart wc.heap.size (w6.alloc (.cells #[.string nm, .int .i64 xk, .int .i64 xn, .string xt, .slice ya xl.length yc, .slice za xfv.length zc] 33)) (.slice (some ⟨g2, 0, none⟩) es.length fv.length)) (nm, .mk xk xn xt xl xfn xfv) [.string nm, .int .i64 xk, .int .i64 xn, .string xt, .slice ya xl.length yc, .slice za xfv.length zc] from ⟨_, rfl, hnz.out, hr6.keep (fun c hc => cp_apartF hcp.out hc) (fun c hc => (below_new w6 (.cells #[.string nm, .int .i64 xk, .int .i64 xn, .string xt, .slice ya xl.length yc, .slice za xfv.length zc] 33)).block c hc.2)⟩)
            have hcp7 := hid (hcp.out.later h7.out)
            have hlb := hid (Nat.lt_of_lt_of_le hcp.out.hb hcp.out.size)
            have hB7 : Hid (w.heap.size + 2 ≤ (w6.alloc (.cells #[.string nm, .int .i64 xk, .int .i64 xn, .string xt, .slice ya xl.length yc, .slice za xfv.length zc] 33)).heap.size) := Nat.le_trans hcp7.out.lo (Nat.le_of_lt (Nat.lt_of_lt_of_le hcp7.out.hb hcp7.out.size))
            clear hr6 h6
            (refine hK.out _ _ (fun _ => cpyF_mk hcp.out.row rfl hrx.out (h6'.out.block _ hlb.out) (h6'.out.block _ hsz.out)) (fun _ => ?_); clear hK K; (try simp only [Act.put, List.setIfInBounds_toArray, List.set_cons_zero, List.set_cons_succ]))
            refine wpAnyT_one (i := 7) (by kernel_rfl) rfl (fun K hK => ?_)
            go_simp
            (refine hK.out _ _ (fun _ => cpyF_mk hcp.out.row rfl hrx.out (h6'.out.block _ hlb.out) (h6'.out.block _ hsz.out)) (fun _ => ?_); clear hK K; (try simp only [Act.put, List.setIfInBounds_toArray, List.set_cons_zero, List.set_cons_succ]))
            refine wpAnyT_one (i := 8) (by kernel_rfl) rfl (fun K hK => ?_)
            go_simp
            (refine hK.out _ _ (fun _ => cpyF_mk hcp.out.row rfl hrx.out (h7.out.block _ hlb.out) (h7.out.block _ hsz.out)) (fun _ => ?_); clear hK K; (try simp only [Act.put, List.setIfInBounds_toArray, List.set_cons_zero, List.set_cons_succ]))
            refine wpAnyT_one (i := 9) (by kernel_rfl) rfl (fun K hK => ?_)
            refine step_append_g fldRel _ rfl _ _ 22 rfl (w.heap.size + 2) wc.heap.size 33 96 i1 _ Tryd.underlying22 hj hy0 hy1 hy2 rfl (by decide) es _ rfl hcp7.out.ownF ⟨w6.heap.size, 0, none⟩ 1 [.string nm, .int .i64 xk, .int .i64 xn, .string xt, .slice ya xl.length yc, .slice za xfv.length zc] (nm, .mk xk xn xt xl xfn xfv) rfl (cells_new _ _ rfl _ _) hX6.out (by have := hml.out; omega) (by have := hml.out; unfold maxLen; omega) hB7.out ?_
            intro v8 w8 hown8 hg8 hlow8 hst8
            obtain rfl := hst8 g2 fv.length rfl (by have := hml.out; omega)
            have hg8' : World.grownBy _ w8 (some g2) := hg8
            have hp8 := hid (hcp7.out.pushF hown8 hg8' rfl)
            have hb8 := hid (hg8'.block b (Nat.lt_of_lt_of_le hcp7.out.hb hcp7.out.size) (fun e => hcp7.out.d2 (by injection e with e; exact e.symm)))
            have hx8 := hid (hg8'.block wr.heap.size (Nat.lt_of_lt_of_le hsz.out h7.out.size) (fun e => by injection e with e; have := hcs.out.h2; have := hcs.out.size; omega))
            have r8 := hid (hb8.out.trans hcp7.out.row)
            have c4 := box_at (j := 4) r8.out rfl
            have fz := box_free r8.out 4
            clear hown8 hg8 hg8' hlow8 hst8
            (refine hK.out _ _ (fun _ => cpyF_mk hcp.out.row rfl hrx.out (hb8.out.trans (h7.out.block _ hlb.out)) (hx8.out.trans (h7.out.block _ hsz.out))) (fun _ => ?_); clear hK K; (try simp only [Act.put, List.setIfInBounds_toArray]))
            refine wpAnyT_one (i := 10) (by kernel_rfl) rfl (fun K hK => ?_)
            go_simp
            (refine hK.out _ _ (fun h => absurd h (by decide)) (fun _ => ?_); clear hK K; (try simp only [Act.put, List.setIfInBounds_toArray, List.set_cons_zero, List.set_cons_succ]))
            refine wpAnyT_one (i := 11) (by kernel_rfl) rfl (fun K hK => ?_)
            go_simp
            (refine hK.out _ _ (fun h => absurd h (by decide)) (fun _ => ?_); clear hK K; (try simp only [Act.put, List.setIfInBounds_toArray]))
            refine wpAnyT_done (by kernel_rfl) ?_ _
            obtain ⟨q1, q2⟩ := hp8.out
            have hcp9 := hid q1
            have hN9 := hid ((hNq.out.step h7.out).trans (by rw [hWs0.out]; exact q2))
            clear q1 q2 c4 fz
            generalize w8.setCell ⟨b, 4, none⟩ (.slice (some ⟨g2, 0, none⟩) (es.length + 1) fv.length) = w9 at *
            have e7 : IntKind.i64.wrap ((m2 : Int) + 1) = ((m2 + 1 : Nat) : Int) := by rw [IntWalk.i64_in _ (by omega)]; omega
            go_wp2_with fail
            go_roundg (fv.length - (m2 + 1))
            case measure => omega
            case rel => exact ⟨m2 + 1, es ++ [(nm, .mk xk xn xt xl xfn xfv)], by omega, by go_num, by show _ = _; rw [hxs.out, hes.out], hcp9, hN9⟩
          · have he : (fn.zip fv).take m2 = fn.zip fv := List.take_of_length_le (by rw [List.length_zip]; have := hfe.out; omega)
            have he2 := hid (hes.out.trans he)
            clear he hes
            have b0 := hcs.out.cell (j := 0) rfl
            have b1 := hcs.out.cell (j := 1) rfl
            have b2 := hcs.out.cell (j := 2) rfl
            have b3 := hcs.out.cell (j := 3) rfl
            have b4 := hcs.out.cell (j := 4) rfl
            have rz := kz.out _ hNs.out
            have z0 := box_at (j := 0) rz rfl
            have z1 := box_at (j := 1) rz rfl
            have z2 := box_at (j := 2) rz rfl
            have z3 := box_at (j := 3) rz rfl
            have z4 := box_at (j := 4) rz rfl
            have y0 := box_free rz 0
            have y1 := box_free rz 1
            have y2 := box_free rz 2
            have y3 := box_free rz 3
            have y4 := box_free rz 4
            replace rz := hid rz
            go_wp2_with fail
            have e1 : es.map Prod.fst = fn := by rw [he2.out]; exact List.map_fst_zip (by have := hfe.out; omega)
            have e2 : es.map Prod.snd = fv := by rw [he2.out]; exact List.map_snd_zip (by have := hfe.out; omega)
            have h1 := hcs.out.ownL.readL (S := From (w.heap.size + 2) wr) (fun c hc => hcs.out.ownL.lt c hc) (fun c hc => ⟨by have := hc.1; have := hcs.out.lo; have := hcs.out.hb; omega, hc.2.1⟩) hlm.2
            have hel : es.length = fv.length := by rw [← e2, List.length_map]
            have h2 := hcs.out.ownF.readF (S := From (w.heap.size + 2) wr) (fun c hc => hcs.out.ownF.lt c hc) (fun c hc => ⟨by have := hc.1; have := hcs.out.lo; have := hcs.out.hb; omega, hc.2.1⟩) (by have := hfm.2; omega)
            rw [e1, e2] at h2
            have hd := rd_mk hk hn hs h1 h2
            have hth := Thaw.mk2 (B := w.heap.size + 2) (k := k) (n := n) (s := s) (l1 := l.length) (c1 := l.length) (l2 := es.length) (c2 := fv.length) (hcs.out.ownL.lt g1 rfl) (fun off => by obtain ⟨_, _, ho, _⟩ := hcs.out.ownL; exact ho.frozenAt off) (hcs.out.ownF.lt g2 rfl) (fun off => by obtain ⟨_, _, ho, _⟩ := hcs.out.ownF; exact ho.frozenAt off)
            replace hth := hid hth
            have hd5 : Hid (Rd (set5 wr (w.heap.size + 1) (.int .i64 k) (.int .i64 n) (.string s) (.slice (some ⟨g1, 0, none⟩) l.length l.length) (.slice (some ⟨g2, 0, none⟩) es.length fv.length)) (From w.heap.size (set5 wr (w.heap.size + 1) (.int .i64 k) (.int .i64 n) (.string s) (.slice (some ⟨g1, 0, none⟩) l.length l.length) (.slice (some ⟨g2, 0, none⟩) es.length fv.length))) (.mk k n s l fn fv) [.int .i64 k, .int .i64 n, .string s, .slice (some ⟨g1, 0, none⟩) l.length l.length, .slice (some ⟨g2, 0, none⟩) es.length fv.length]) :=
              hd.keep (fun c hc => ⟨by have := hc.1; omega, by rw [set5_size]; exact hc.2⟩) (fun c hc => set5_other _ _ _ _ _ _ _ (by have := hc.1; omega))
            have hth5 : Hid (Thaw w.heap.size (set5 wr (w.heap.size + 1) (.int .i64 k) (.int .i64 n) (.string s) (.slice (some ⟨g1, 0, none⟩) l.length l.length) (.slice (some ⟨g2, 0, none⟩) es.length fv.length)) [.int .i64 k, .int .i64 n, .string s, .slice (some ⟨g1, 0, none⟩) l.length l.length, .slice (some ⟨g2, 0, none⟩) es.length fv.length]) := hth.out.keep (by omega) (by rw [set5_size]; exact Nat.le_refl _) (fun c hc _ => set5_other _ _ _ _ _ _ _ (by omega))
            clear hth
            have hb5 := hid (set5_below (k1.out _ hNs.out) (by omega : w.heap.size ≤ w.heap.size + 1) (.int .i64 k) (.int .i64 n) (.string s) (.slice (some ⟨g1, 0, none⟩) l.length l.length) (.slice (some ⟨g2, 0, none⟩) es.length fv.length))
            have r5 := set5_box (u0 := .int .i64 k) (u1 := .int .i64 n) (u2 := .string s) (u3 := .slice (some ⟨g1, 0, none⟩) l.length l.length) (u4 := .slice (some ⟨g2, 0, none⟩) es.length fv.length) rz.out
            clear h1 h2 hd e1 e2 hel z0 z1 z2 z3 z4 y0 y1 y2 y3 y4 b0 b1 b2 b3 b4
            have z0 := box_at (j := 0) r5 rfl
            have z1 := box_at (j := 1) r5 rfl
            have z2 := box_at (j := 2) r5 rfl
            have z3 := box_at (j := 3) r5 rfl
            have z4 := box_at (j := 4) r5 rfl
            clear r5
            unfold set5 at hd5 hb5 hth5 z0 z1 z2 z3 z4
            refine ⟨rfl, .agg #[.int .i64 k, .int .i64 n, .string s, .slice (some ⟨g1, 0, none⟩) l.length l.length, .slice (some ⟨g2, 0, none⟩) es.length fv.length], ?_, ⟨_, rfl, hd5.out, hb5.out, hth5.out⟩⟩
            generalize ((((wr.setCell ⟨w.heap.size + 1, 0, none⟩ (.int .i64 k)).setCell ⟨w.heap.size + 1, 1, none⟩ (.int .i64 n)).setCell ⟨w.heap.size + 1, 2, none⟩ (.string s)).setCell ⟨w.heap.size + 1, 3, none⟩ (.slice (some ⟨g1, 0, none⟩) l.length l.length)).setCell ⟨w.heap.size + 1, 4, none⟩ (.slice (some ⟨g2, 0, none⟩) es.length fv.length) = w7 at *
            simp [results, Tryd.results20, go_sem, z0, z1, z2, z3, z4]
end Go.Proofs.YtckdgmjekfpcjaaDoor
