/-
  Walk: a value copied into new memory that may be written, throughout. No condition.
-/
import Derived.Test.YthjihdpleclejaaGreatDoorMgPth6
import Derived.Test.YthjihdpleclejaaGreatDoorMgCpy
namespace Go.Proofs.YthjihdpleclejaaGreatDoor
open Go.RowKit Go.Proofs
def Warm (w : World) (c : Nat) : Prop := ∀ off, w.frozen? ⟨c, off, none⟩ = false
theorem Warm.keep {w w' : World} {c : Nat} (h : Warm w c) (hb : w'.heap[c]? = w.heap[c]?) : Warm w' c := fun off => by
 rw [← h off]
 unfold World.frozen?
 rw [hb]
def RdZ (w : World) (S : Nat → Prop) (x : PVal) (cs : List Value) : Prop := Rd w (fun c => S c ∧ Warm w c) x cs
def RdFlZ (w : World) (S : Nat → Prop) (x : ByteArray × PVal) (cs : List Value) : Prop := RdFl w (fun c => S c ∧ Warm w c) x cs
theorem valZ : RowRel RdZ 5 := ⟨fun h1 h2 h => h.keep (fun c hc => ⟨h1 c hc.1, hc.2.keep (h2 c hc.1)⟩) (fun c hc => h2 c hc.1), fun h => h.one, fun h => h.len⟩
theorem fldZ : RowRel RdFlZ 6 :=
 ⟨fun h1 h2 h => fldRel.keep (fun c hc => ⟨h1 c hc.1, hc.2.keep (h2 c hc.1)⟩) (fun c hc => h2 c hc.1) h, fun h => fldRel.one h, fun h => fldRel.len h⟩
theorem warm_row {w : World} {A e sz n : Nat} {v : Value} {xs : List Value} (h : w.ownsRow A e sz v n xs) {b : Nat} (hb : v.ownBlock = some b) : Warm w b := fun off => by
 obtain ⟨_, ⟨rfl, _⟩ | ⟨g, cap, cur, rfl, _, hc, _⟩⟩ := h
 ·cases hb
 ·simp only [Value.ownBlock, Option.some.injEq] at hb
  subst hb
  simp [World.frozen?, hc]
theorem OwnG.readLZ {w : World} {S : Nat → Prop} {A B e : Nat} {xs : List PVal} {v : Value} (h : OwnG RdZ 5 A B e w xs v) (ho : ∀ b, v.ownBlock = some b → S b) (hS : ∀ b, Apart B w v b ∧ Warm w b → S b) (hn : xs.length ≤ 1759218604441) : RdL w S xs v := by
 rcases h.row valZ with ⟨rfl, rfl⟩ | ⟨g, cap, rfl, h1, h2, h3, h4, cs, h5, h6⟩
 ·exact ⟨none, 0, fun _ => [], rfl, Nat.le_refl _, by simp, .inl rfl, fun i x hx => by simp at hx⟩
 ·exact ⟨some ⟨g, 0, none⟩, cap, cs, rfl, h1, ⟨by unfold maxLen at h2; omega, hn⟩, .inr ⟨g, 0, rfl, ho g rfl, h5⟩, fun i x hx => (show Rd w _ x (cs i) from h6 i x hx).keep hS (fun _ _ => rfl)⟩
theorem OwnG.readFZ {w : World} {S : Nat → Prop} {A B e : Nat} {xs : List (ByteArray × PVal)} {v : Value} (h : OwnG RdFlZ 6 A B e w xs v) (ho : ∀ b, v.ownBlock = some b → S b) (hS : ∀ b, Apart B w v b ∧ Warm w b → S b) (hn : xs.length ≤ 1466015503701) : RdF w S (xs.map Prod.fst) (xs.map Prod.snd) v := by
 have hz : ∀ a ∈ xs.map Prod.fst, a.size ≤ 140737488355328 := by
  intro a ha
  obtain ⟨x, hx, rfl⟩ := List.mem_map.1 ha
  obtain ⟨i, hi⟩ := List.getElem?_of_mem hx
  obtain ⟨css, hlen, ho, hr⟩ := h
  obtain ⟨cs, hcs⟩ : ∃ cs, css[i]? = some cs := ⟨_, List.getElem?_eq_getElem (by have := (List.getElem?_eq_some_iff.1 hi).1; omega)⟩
  obtain ⟨_, _, h2, _⟩ := hr i x cs hi hcs
  exact h2
 refine ⟨by simp, hz, ?_⟩
 rcases h.row fldZ with ⟨rfl, rfl⟩ | ⟨g, cap, rfl, h1, h2, h3, h4, cs, h5, h6⟩
 ·exact ⟨none, 0, fun _ => [], rfl, Nat.le_refl _, by simp, .inl rfl, fun i x hx => by simp at hx⟩
 ·refine ⟨some ⟨g, 0, none⟩, cap, fun i => (cs i).tail, by rw [List.length_map], by rw [List.length_map]; exact h1, ⟨by unfold maxLen at h2; omega, by rw [List.length_map]; exact hn⟩, .inr ⟨g, 0, rfl, ho g rfl, fun i hi j u hu => ?_⟩, fun i x hx => ?_⟩
  ·rw [List.length_map] at hi
   have hx : xs[i]? = some xs[i] := List.getElem?_eq_getElem hi
   obtain ⟨ys, hc, _, _⟩ := h6 i _ hx
   have hg : (xs.map Prod.fst).getD i ByteArray.empty = xs[i].1 := by simp [List.getD, hx]
   refine h5 i hi j u ?_
   simp only [hg, hc, List.tail_cons] at hu
   rw [hc]
   exact hu
  ·rw [List.getElem?_map] at hx
   obtain ⟨y, hy, rfl⟩ := Option.map_eq_some_iff.1 hx
   obtain ⟨ys, hc, _, hr⟩ := h6 i _ hy
   simp only [hc, List.tail_cons]
   exact hr.keep hS (fun _ _ => rfl)
theorem Rd.free_new {w6 : World} {B : Nat} {S : Nat → Prop} {V : PVal} {cs : List Value} (o : Obj) (h : Rd w6 (Free B w6) V cs) (hS : ∀ c, From B w6 c → S c) : Rd (w6.alloc o) (fun c => S c ∧ Warm (w6.alloc o) c) V cs :=
 h.keep (fun c hc => ⟨hS c hc.1, Warm.keep (w := w6) hc.2 ((below_new w6 o).block c hc.1.2)⟩) (fun c hc => (below_new w6 o).block c hc.1.2)
structure CQ (A b C g1 g2 n1 n2 : Nat) (k n : Int) (s : ByteArray) (xs : List PVal) (fs : List (ByteArray × PVal)) (w : World) : Prop where
  row : w.heap[b]? = some (.cells #[.int .i64 k, .int .i64 n, .string s, .slice (some ⟨g1, 0, none⟩) xs.length n1, .slice (some ⟨g2, 0, none⟩) fs.length n2] 25 (0, 0))
  ownL : OwnG RdZ 5 A C 25 w xs (.slice (some ⟨g1, 0, none⟩) xs.length n1)
  ownF : OwnG RdFlZ 6 A C 54 w fs (.slice (some ⟨g2, 0, none⟩) fs.length n2)
  lo : A ≤ b
  hb : b < C
  h1 : g1 < C
  h2 : g2 < C
  d1 : g1 ≠ b
  d2 : g2 ≠ b
  d12 : g1 ≠ g2
  size : C ≤ w.heap.size
section
variable {A b C g1 g2 n1 n2 : Nat} {k n : Int} {s : ByteArray} {xs : List PVal} {fs : List (ByteArray × PVal)} {w w' : World}
theorem CQ.later (h : CQ A b C g1 g2 n1 n2 k n s xs fs w) (hb : Below w.heap.size w w') : CQ A b C g1 g2 n1 n2 k n s xs fs w' :=
 ⟨(hb.block b (Nat.lt_of_lt_of_le h.hb h.size)).trans h.row, h.ownL.later valZ hb, h.ownF.later fldZ hb, h.lo, h.hb, h.h1, h.h2, h.d1, h.d2, h.d12, Nat.le_trans h.size hb.size⟩
theorem CQ.cell (h : CQ A b C g1 g2 n1 n2 k n s xs fs w) {j : Nat} {v : Value} (hj : (#[.int .i64 k, .int .i64 n, .string s, .slice (some ⟨g1, 0, none⟩) xs.length n1, .slice (some ⟨g2, 0, none⟩) fs.length n2] : Array Value)[j]? = some v) : w.cell? ⟨b, j, none⟩ = some v := box_at h.row hj
theorem CQ.free (h : CQ A b C g1 g2 n1 n2 k n s xs fs w) (j : Nat) : w.frozen? ⟨b, j, none⟩ = false := box_free h.row j
theorem CQ.pushL {X : PVal} {v : Value} {w8 : World} (h : CQ A b C g1 g2 n1 n2 k n s xs fs w) (ho : OwnG RdZ 5 A C 25 w8 (xs ++ [X]) v) (hg : w.grownBy w8 (some g1)) (hv : v = .slice (some ⟨g1, 0, none⟩) (xs.length + 1) n1) :
  CQ A b C g1 g2 n1 n2 k n s (xs ++ [X]) fs (w8.setCell ⟨b, 3, none⟩ v) ∧ Below A w (w8.setCell ⟨b, 3, none⟩ v) := by
 subst hv
 have hb8 : w8.heap[b]? = w.heap[b]? := hg.block b (Nat.lt_of_lt_of_le h.hb h.size) (fun e => h.d1 (by injection e with e; exact e.symm))
 have hr := row_setCell (j := 3) (u := .slice (some ⟨g1, 0, none⟩) (xs.length + 1) n1) (hb8.trans h.row)
 have hlen : (xs ++ [X]).length = xs.length + 1 := by simp
 have hF8 : OwnG RdFlZ 6 A C 54 w8 fs (.slice (some ⟨g2, 0, none⟩) fs.length n2) := h.ownF.keep fldZ hg.size
  (fun c hc => by simp only [Value.ownBlock, Option.some.injEq] at hc; subst hc; exact hg.block _ (Nat.lt_of_lt_of_le h.h2 h.size) (fun e => h.d12 (by injection e with e; exact e.symm)))
  (fun c hc => hg.block c hc.2.1 (fun e => by injection e with e; have := hc.1; have := h.h1; omega))
 refine ⟨⟨?_, ?_, hF8.box fldZ _ _ (fun e => h.d2 (by simpa [Value.ownBlock] using e)) h.hb, h.lo, h.hb, h.h1, h.h2, h.d1, h.d2, h.d12, ?_⟩, ?_⟩
 ·rw [hr, hlen]; rfl
 ·rw [hlen]
  exact ho.box valZ _ _ (fun e => h.d1 (by simpa [Value.ownBlock] using e)) h.hb
 ·exact Nat.le_trans h.size (by simpa [World.setCell] using hg.size)
 ·refine Below.setCell (p := ⟨b, 3, none⟩) ?_ h.lo _
  exact ⟨hg.os, hg.tape, hg.output, hg.size, fun c hc => hg.block c (by have := h.hb; have := h.lo; have := h.size; omega) (fun e => by injection e with e; have := (h.ownL.lt g1 rfl).1; omega)⟩
theorem CQ.pushF {X : ByteArray × PVal} {v : Value} {w8 : World} (h : CQ A b C g1 g2 n1 n2 k n s xs fs w) (ho : OwnG RdFlZ 6 A C 54 w8 (fs ++ [X]) v) (hg : w.grownBy w8 (some g2)) (hv : v = .slice (some ⟨g2, 0, none⟩) (fs.length + 1) n2) :
  CQ A b C g1 g2 n1 n2 k n s xs (fs ++ [X]) (w8.setCell ⟨b, 4, none⟩ v) ∧ Below A w (w8.setCell ⟨b, 4, none⟩ v) := by
 subst hv
 have hb8 : w8.heap[b]? = w.heap[b]? := hg.block b (Nat.lt_of_lt_of_le h.hb h.size) (fun e => h.d2 (by injection e with e; exact e.symm))
 have hr := row_setCell (j := 4) (u := .slice (some ⟨g2, 0, none⟩) (fs.length + 1) n2) (hb8.trans h.row)
 have hlen : (fs ++ [X]).length = fs.length + 1 := by simp
 have hL8 : OwnG RdZ 5 A C 25 w8 xs (.slice (some ⟨g1, 0, none⟩) xs.length n1) := h.ownL.keep valZ hg.size
  (fun c hc => by simp only [Value.ownBlock, Option.some.injEq] at hc; subst hc; exact hg.block _ (Nat.lt_of_lt_of_le h.h1 h.size) (fun e => h.d12 (by injection e)))
  (fun c hc => hg.block c hc.2.1 (fun e => by injection e with e; have := hc.1; have := h.h2; omega))
 refine ⟨⟨?_, hL8.box valZ _ _ (fun e => h.d1 (by simpa [Value.ownBlock] using e)) h.hb, ?_, h.lo, h.hb, h.h1, h.h2, h.d1, h.d2, h.d12, ?_⟩, ?_⟩
 ·rw [hr, hlen]; rfl
 ·rw [hlen]
  exact ho.box fldZ _ _ (fun e => h.d2 (by simpa [Value.ownBlock] using e)) h.hb
 ·exact Nat.le_trans h.size (by simpa [World.setCell] using hg.size)
 ·refine Below.setCell (p := ⟨b, 4, none⟩) ?_ h.lo _
  exact ⟨hg.os, hg.tape, hg.output, hg.size, fun c hc => hg.block c (by have := h.hb; have := h.lo; have := h.size; omega) (fun e => by injection e with e; have := (h.ownF.lt g2 rfl).1; omega)⟩
end
theorem cq_new {A b g1 g2 n1 n2 : Nat} {k n : Int} {s : ByteArray} {w : World} {c1 c2 : Array Value} (hb : w.heap[b]? = some (.cells #[.int .i64 k, .int .i64 n, .string s, .slice (some ⟨g1, 0, none⟩) 0 n1, .slice (some ⟨g2, 0, none⟩) 0 n2] 25 (0, 0)))
  (h1 : w.heap[g1]? = some (.cells c1 25 (0, 0))) (h2 : w.heap[g2]? = some (.cells c2 54 (0, 0))) (s1 : c1.size = n1 * 5) (s2 : c2.size = n2 * 6) (l1 : n1 ≤ 1759218604441) (l2 : n2 ≤ 1466015503701)
  (d1 : g1 ≠ b) (d2 : g2 ≠ b) (d12 : g1 ≠ g2) (a0 : A ≤ b) (a1 : A ≤ g1) (a2 : A ≤ g2) : CQ A b w.heap.size g1 g2 n1 n2 k n s [] [] w :=
 ⟨hb, OwnG.empty (made_row h1 a1 (by unfold maxLen; omega) s1), OwnG.empty (made_row h2 a2 (by unfold maxLen; omega) s2), a0, lt_of_block hb, lt_of_block h1, lt_of_block h2, d1, d2, d12, Nat.le_refl _⟩
theorem cq_apart {A b C g1 g2 n1 n2 m1 m2 : Nat} {k n : Int} {s : ByteArray} {xs : List PVal} {fs : List (ByteArray × PVal)} {w w6 : World} {o : Obj} (h : CQ A b C g1 g2 n1 n2 k n s xs fs w) {c : Nat} (hc : From w.heap.size w6 c) : Apart C (w6.alloc o) (.slice (some ⟨g1, 0, none⟩) m1 m2) c :=
 ⟨by have := hc.1; have := h.size; omega, by have := hc.2; simp; omega, fun e => cp_far (by simpa [Value.ownBlock] using e) hc.1 h.size h.h1⟩
theorem cq_apartF {A b C g1 g2 n1 n2 m1 m2 : Nat} {k n : Int} {s : ByteArray} {xs : List PVal} {fs : List (ByteArray × PVal)} {w w6 : World} {o : Obj} (h : CQ A b C g1 g2 n1 n2 k n s xs fs w) {c : Nat} (hc : From w.heap.size w6 c) : Apart C (w6.alloc o) (.slice (some ⟨g2, 0, none⟩) m1 m2) c :=
 ⟨by have := hc.1; have := h.size; omega, by have := hc.2; simp; omega, fun e => cp_far (by simpa [Value.ownBlock] using e) hc.1 h.size h.h2⟩
set_option maxRecDepth 100000 in
set_option maxHeartbeats 4000000 in
theorem copy_deep : ∀ (V : PVal) (w : World) (cs : List Value), Rd w (Now w) V cs →
  Calls Tryz.prog 30 #[.agg cs.toArray] w (Copied V w) := by
 intro V
 induction hN : V.nodes using Nat.strongRecOn generalizing V with
 | _ N ih =>
 subst hN
 intro w cs hV
 obtain ⟨k, n, s, l, fn, fv⟩ := V
 obtain ⟨la, lc, fa, fc, rfl, hk, hn, hs, hlc, hlm, hfc, hfm, hL, hF⟩ := hV.inv
 have hfe := hid hF.1
 obtain ⟨i0, hi, hz0, hz1, hz2⟩ := info_parts info52
 obtain ⟨i1, hj, hy0, hy1, hy2⟩ := info_parts info_fldc
 have hm1 : ∀ w : World, (Instr.makeSlice 22 (.int .i64 0) (.int .i64 (l.length : Int))).run Tryz.prog w = .ok (.slice (some ⟨w.heap.size, 0, none⟩) 0 l.length) (w.alloc (.cells (madeCells (Value.agg #[.int .i64 0, .int .i64 0, .string ByteArray.empty, .slice none 0 0, .slice none 0 0]).cells (l.length * 5)) 25)) := fun w => by
  have h := run_make (P := Tryz.prog) w 22 25 i0 _ Tryz.underlying22 hi hz0 .i64 .i64 0 l.length (by omega) (by omega) (by rw [hz2]; omega) (by omega)
  rw [hz1] at h
  exact h
 have hm2 : ∀ w : World, (Instr.makeSlice 23 (.int .i64 0) (.int .i64 (fv.length : Int))).run Tryz.prog w = .ok (.slice (some ⟨w.heap.size, 0, none⟩) 0 fv.length) (w.alloc (.cells (madeCells (Value.agg #[.string ByteArray.empty, .int .i64 0, .int .i64 0, .string ByteArray.empty, .slice none 0 0, .slice none 0 0]).cells (fv.length * 6)) 54)) := fun w => by
  have h := run_make (P := Tryz.prog) w 23 54 i1 _ Tryz.underlying23 hj hy0 .i64 .i64 0 fv.length (by omega) (by omega) (by rw [hy2]; omega) (by omega)
  rw [hy1] at h
  exact h
 obtain ⟨W2, hW2⟩ : ∃ W2, W2 = (w.alloc (.cells #[.int .i64 k, .int .i64 n, .string s, .slice la l.length lc, .slice fa fv.length fc] 25)).alloc (.cells #[.int .i64 0, .int .i64 0, .string ByteArray.empty, .slice none 0 0, .slice none 0 0] 25) := ⟨_, rfl⟩
 have hWs : W2.heap.size = w.heap.size + 2 := by rw [hW2]; simp
 have hWs0 := hid hWs
 have k1 : Hid (∀ w', Below W2.heap.size W2 w' → Below w.heap.size w w') := fun w' h => by rw [hW2] at h; exact ((below_new _ _).step (below_new _ _)).step h
 have kc : Hid (∀ w', Below W2.heap.size W2 w' → ∀ (j : Nat) (v : Value), (#[.int .i64 k, .int .i64 n, .string s, .slice la l.length lc, .slice fa fv.length fc] : Array Value)[j]? = some v → w'.cell? ⟨w.heap.size, j, none⟩ = some v) := fun w' h j v hj => by rw [hW2] at h; exact box_cell ((below_new _ _).step h) hj
 have kz : Hid (∀ w', Below W2.heap.size W2 w' → w'.heap[w.heap.size + 1]? = some (.cells #[.int .i64 0, .int .i64 0, .string ByteArray.empty, .slice none 0 0, .slice none 0 0] 25 (0, 0))) := fun w' h => by
  rw [hW2] at h
  exact (h.block _ (by simp)).trans (al_at (by simp))
 replace hW2 := hid hW2
 have hL0 := hid hL
 have hF0 := hid hF
 have hih := hid (fun (x : PVal) (hx : x.nodes < (PVal.mk k n s l fn fv).nodes) (w : World) (cs : List Value) (h : Rd w (Now w) x cs) => ih x.nodes hx x rfl w cs h)
 clear ih hL hF hWs
 go_enter Tryz.func30, Tryz.ntmps30
 go_upto_region 1 with fail
 go_cut [3] from 8 to 22 (fun s3 wx => ∃ b g1 g2, s3 = .pointer (some ⟨b, 0, none⟩) ∧ CQ (w.heap.size + 2) b wx.heap.size g1 g2 l.length fv.length k n s [] [] wx ∧ Below W2.heap.size W2 wx)
 case first =>
  have m1 := size_madeCells (Value.agg #[.int .i64 0, .int .i64 0, .string ByteArray.empty, .slice none 0 0, .slice none 0 0]).cells (l.length * 5)
  have m2 := size_madeCells (Value.agg #[.string ByteArray.empty, .int .i64 0, .int .i64 0, .string ByteArray.empty, .slice none 0 0, .slice none 0 0]).cells (fv.length * 6)
  go_region_held3 (fun w' => w'.cell? ⟨w.heap.size, 0, none⟩ = some (.int .i64 k) ∧ w'.cell? ⟨w.heap.size, 1, none⟩ = some (.int .i64 n) ∧ w'.cell? ⟨w.heap.size, 2, none⟩ = some (.string s) ∧ w'.cell? ⟨w.heap.size, 3, none⟩ = some (.slice la l.length lc) ∧ w'.cell? ⟨w.heap.size, 4, none⟩ = some (.slice fa fv.length fc))
   (first
    | exact s5_of (dr_at (al_old (al_at (w := w) rfl)))
    | exact s5_of (dr_at (al_old (al_old (al_at (w := w) rfl))))
    | exact s5_of (dr_at (al_old (al_old (al_old (al_at (w := w) rfl)))))
    | exact s5_of (dr_at (al_old (al_old (al_old (al_old (al_at (w := w) rfl)))))))
   (fail)
  all_goals
   go_wp2_with fail
   go_meet
   refine' ⟨_, _, _, rfl, cq_new ?hb ?h1 ?h2 m1 m2 hlm.2 hfm.2 ?d1 ?d2 ?d12 ?a0 ?a1 ?a2, ?bl⟩
   case hb => first | exact dr_at (al_at (by simp)) | exact dr_at (al_old (al_at (by simp))) | exact dr_at (al_old (al_old (al_at (by simp)))) | trace_state
   case h1 => first | exact dr_at (al_at (by simp)) | exact dr_at (al_old (al_at (by simp))) | exact dr_at (al_old (al_old (al_at (by simp)))) | trace_state
   case h2 => first | exact dr_at (al_at (by simp)) | exact dr_at (al_old (al_at (by simp))) | exact dr_at (al_old (al_old (al_at (by simp)))) | trace_state
   case d1 => omega
   case d2 => omega
   case d12 => omega
   case a0 => omega
   case a1 => omega
   case a2 => omega
   case bl => rw [hW2.out]; exact ((((Below.refl _ _).alloc (by simp) _).alloc (by simp; try omega) _).alloc (by simp; try omega) _).drew
 case rest =>
  obtain ⟨b, g1, g2, rfl, hcp, hN⟩ := hcut
  have hcp0 := hid hcp
  have N0 := hid hN
  have a3 : wc.cell? ⟨w.heap.size, 3, none⟩ = some (.slice la l.length lc) := kc.out _ hN 3 _ rfl
  clear hcp hN
  go_wp2_with fail
  go_loopg [26] l.length (fun gh i wr => ∃ (m : Nat) (ds : List PVal), gh + m = l.length ∧ i = .int .i64 m ∧ Hid (ds = l.take m) ∧ Hid (CQ (w.heap.size + 2) b wc.heap.size g1 g2 l.length fv.length k n s ds [] wr) ∧ Hid (Below W2.heap.size W2 wr))
  case atStart => exact ⟨0, [], by omega, rfl, rfl, hcp0, N0⟩
  case round =>
   obtain ⟨m, ds, hm, rfl, hds, hcr, hNr⟩ := hrel
   clear hcp0 N0 a3
   by_cases hlt : m < l.length
   ·obtain ⟨x, hx⟩ : ∃ x, l[m]? = some x := ⟨_, List.getElem?_eq_getElem hlt⟩
    have hpr := hL0.out.later (k1.out _ hNr.out)
    obtain ⟨b', off, xs, rfl, hxS, hxc, hxr⟩ := hpr.at_ hx
    have hxn := nodes_mem (List.mem_of_getElem? hx)
    have hxs := hid (take_succ_of hx)
    have hcx := hid (fun w cs h => hih.out x (by simp only [PVal.nodes]; omega) w cs h)
    have hml : Hid (ds.length = m) := by show _ = _; rw [hds.out]; exact List.length_take_of_le (by omega)
    clear hx hpr hxn
    obtain ⟨xk, xn, xt, xl, xfn, xfv⟩ := x
    obtain ⟨xa, xc, xf, xg, rfl, _⟩ := hxr.inv
    obtain ⟨d0, d1, d2, d3, d4⟩ := five hxc
    clear hxc
    have hxr := hid hxr
    go_upto_region 5 with fail
    obtain ⟨wp, hwp⟩ : ∃ wp, wp = wr.alloc (.cells #[.int .i64 xk, .int .i64 xn, .string xt, .slice xa xl.length xc, .slice xf xfv.length xg] 25) := ⟨_, rfl⟩
    have hrx : Hid (wp.heap[wr.heap.size]? = some (.cells #[.int .i64 xk, .int .i64 xn, .string xt, .slice xa xl.length xc, .slice xf xfv.length xg] 25 (0, 0))) := by show _ = _; rw [hwp]; exact heap_alloc_new _ _
    have hNp : Hid (Below wr.heap.size wr wp) := by show Below _ _ _; rw [hwp]; exact below_new _ _
    rw [← hwp]
    replace hwp := hid hwp
    have hsz : Hid (wr.heap.size < wp.heap.size) := lt_of_block hrx.out
    have hcp := hid (hcr.out.later hNp.out)
    have hNq := hid (hNr.out.step hNp.out)
    have hX := hid (hxr.out.later (hNp.out.drew))
    clear d0 d1 d2 d3 d4
    refine wp_region_T (CpyS b wr.heap.size (.slice (some ⟨g1, 0, none⟩) ds.length l.length) (.int .i64 xk) (.int .i64 xn) (.string xt) (.slice xa xl.length xc) (.slice xf xfv.length xg)) 6 (by kernel_rfl) ?_
    have hS0 : CpyS b wr.heap.size (.slice (some ⟨g1, 0, none⟩) ds.length l.length) (.int .i64 xk) (.int .i64 xn) (.string xt) (.slice xa xl.length xc) (.slice xf xfv.length xg) wp.drew := cpyS_mk hcp.out.row rfl hrx.out rfl rfl
    ((refine wpAnyT_take (i := 0) (v := ?_) rfl (by kernel_rfl) (by kernel_rfl) (by kernel_rfl) (by kernel_rfl) (by exact fun _ _ _ h => h) (Or.inl ⟨by rfl, ?_⟩) hS0 ?_; rotate_left 1; focus (intro w hSw; unfold CpyS at hSw; (try dsimp only at hSw); go_simp; try with_reducible rfl); (try simp only [List.getElem_toArray, List.getElem_cons_zero, List.getElem_cons_succ, Act.put, List.setIfInBounds_toArray, List.set_cons_zero, List.set_cons_succ])); (refine wpAnyT_take (i := 1) (v := ?_) rfl (by kernel_rfl) (by kernel_rfl) (by kernel_rfl) (by kernel_rfl) (by exact fun _ _ _ h => h) (Or.inl ⟨by rfl, ?_⟩) hS0 ?_; rotate_left 1; focus (intro w hSw; unfold CpyS at hSw; (try dsimp only at hSw); go_simp; try with_reducible rfl); (try simp only [List.getElem_toArray, List.getElem_cons_zero, List.getElem_cons_succ, Act.put, List.setIfInBounds_toArray, List.set_cons_zero, List.set_cons_succ])); (refine wpAnyT_take (i := 2) (v := ?_) rfl (by kernel_rfl) (by kernel_rfl) (by kernel_rfl) (by kernel_rfl) (by exact fun _ _ _ h => h) (Or.inl ⟨by rfl, ?_⟩) hS0 ?_; rotate_left 1; focus (intro w hSw; unfold CpyS at hSw; (try dsimp only at hSw); go_simp; try with_reducible rfl); (try simp only [List.getElem_toArray, List.getElem_cons_zero, List.getElem_cons_succ, Act.put, List.setIfInBounds_toArray, List.set_cons_zero, List.set_cons_succ])))
    clear hS0
    refine wpAnyT_one (i := 3) (by kernel_rfl) rfl (fun K hK => ?_)
    go_simp
    refine (hcx.out _ _ hX.out).mono ?_
    rintro e w6 ⟨cs6, rfl, hr6, h6⟩
    obtain ⟨ya, yc, za, zc, rfl, _⟩ := hr6.inv
    have h6' := hid (show Below wp.heap.size wp w6 from (Below.refl wp.heap.size wp).drew.trans h6)
    have h7 := hid (h6'.out.step (below_new w6 (.cells #[.int .i64 xk, .int .i64 xn, .string xt, .slice ya xl.length yc, .slice za xfv.length zc] 25)))
    have hX6 : Hid (RdZ (w6.alloc (.cells #[.int .i64 xk, .int .i64 xn, .string xt, .slice ya xl.length yc, .slice za xfv.length zc] 25)) (Apart wc.heap.size (w6.alloc (.cells #[.int .i64 xk, .int .i64 xn, .string xt, .slice ya xl.length yc, .slice za xfv.length zc] 25)) (.slice (some ⟨g1, 0, none⟩) ds.length l.length)) (.mk xk xn xt xl xfn xfv) [.int .i64 xk, .int .i64 xn, .string xt, .slice ya xl.length yc, .slice za xfv.length zc]) := hr6.free_new _ (fun c hc => cq_apart hcp.out hc)
    have hcp7 := hid (hcp.out.later h7.out)
    have hlb := hid (Nat.lt_of_lt_of_le hcp.out.hb hcp.out.size)
    have hB7 : Hid (w.heap.size + 2 ≤ (w6.alloc (.cells #[.int .i64 xk, .int .i64 xn, .string xt, .slice ya xl.length yc, .slice za xfv.length zc] 25)).heap.size) := Nat.le_trans hcp7.out.lo (Nat.le_of_lt (Nat.lt_of_lt_of_le hcp7.out.hb hcp7.out.size))
    clear hr6 h6
    (refine hK.out _ _ (fun _ => cpyS_mk hcp.out.row rfl hrx.out (h6'.out.block _ hlb.out) (h6'.out.block _ hsz.out)) (fun _ => ?_); clear hK K; (try simp only [Act.put, List.setIfInBounds_toArray, List.set_cons_zero, List.set_cons_succ]))
    refine wpAnyT_one (i := 4) (by kernel_rfl) rfl (fun K hK => ?_)
    go_simp
    (refine hK.out _ _ (fun _ => cpyS_mk hcp.out.row rfl hrx.out (h7.out.block _ hlb.out) (h7.out.block _ hsz.out)) (fun _ => ?_); clear hK K; (try simp only [Act.put, List.setIfInBounds_toArray, List.set_cons_zero, List.set_cons_succ]))
    refine wpAnyT_one (i := 5) (by kernel_rfl) rfl (fun K hK => ?_)
    refine step_append_g valZ _ rfl _ _ 22 rfl (w.heap.size + 2) wc.heap.size 25 80 i0 _ Tryz.underlying22 hi hz0 hz1 hz2 rfl (by decide) ds _ rfl hcp7.out.ownL ⟨w6.heap.size, 0, none⟩ 1 [.int .i64 xk, .int .i64 xn, .string xt, .slice ya xl.length yc, .slice za xfv.length zc] (.mk xk xn xt xl xfn xfv) rfl (cells_new _ _ rfl _ _) hX6.out (by have := hml.out; omega) (by have := hml.out; unfold maxLen; omega) hB7.out ?_
    intro v8 w8 hown8 hg8 hlow8 hst8
    obtain rfl := hst8 g1 l.length rfl (by have := hml.out; omega)
    have hg8' : World.grownBy _ w8 (some g1) := hg8
    have hp8 := hid (hcp7.out.pushL hown8 hg8' rfl)
    have hb8 := hid (hg8'.block b (Nat.lt_of_lt_of_le hcp7.out.hb hcp7.out.size) (fun e => hcp7.out.d1 (by injection e with e; exact e.symm)))
    have hx8 := hid (hg8'.block wr.heap.size (Nat.lt_of_lt_of_le hsz.out h7.out.size) (fun e => by injection e with e; have := hcr.out.h1; have := hcr.out.size; omega))
    have r8 := hid (hb8.out.trans hcp7.out.row)
    have c3 := box_at (j := 3) r8.out rfl
    have fz := box_free r8.out 3
    clear hown8 hg8 hg8' hlow8 hst8
    (refine hK.out _ _ (fun _ => cpyS_mk hcp.out.row rfl hrx.out (hb8.out.trans (h7.out.block _ hlb.out)) (hx8.out.trans (h7.out.block _ hsz.out))) (fun _ => ?_); clear hK K; (try simp only [Act.put, List.setIfInBounds_toArray]))
    refine wpAnyT_one (i := 6) (by kernel_rfl) rfl (fun K hK => ?_)
    go_simp
    (refine hK.out _ _ (fun h => absurd h (by decide)) (fun _ => ?_); clear hK K; (try simp only [Act.put, List.setIfInBounds_toArray, List.set_cons_zero, List.set_cons_succ]))
    refine wpAnyT_one (i := 7) (by kernel_rfl) rfl (fun K hK => ?_)
    go_simp
    (refine hK.out _ _ (fun h => absurd h (by decide)) (fun _ => ?_); clear hK K; (try simp only [Act.put, List.setIfInBounds_toArray]))
    refine wpAnyT_done (by kernel_rfl) ?_ _
    obtain ⟨q1, q2⟩ := hp8.out
    have hcp9 := hid q1
    have hN9 := hid ((hNq.out.step h7.out).trans (by rw [hWs0.out]; exact q2))
    clear q1 q2 c3 fz
    generalize w8.setCell ⟨b, 3, none⟩ (.slice (some ⟨g1, 0, none⟩) (ds.length + 1) l.length) = w9 at *
    have e7 : IntKind.i64.wrap ((m : Int) + 1) = ((m + 1 : Nat) : Int) := by rw [IntWalk.i64_in _ (by omega)]; omega
    go_wp2_with fail
    go_roundg (l.length - (m + 1))
    case measure => omega
    case rel => exact ⟨m + 1, ds ++ [.mk xk xn xt xl xfn xfv], by omega, by go_num, by show _ = _; rw [hxs.out, hds.out], hcp9, hN9⟩
   ·have he : l.take m = l := List.take_of_length_le (by omega)
    obtain rfl : l = ds := (hds.out.trans he).symm
    have a4 : wr.cell? ⟨w.heap.size, 4, none⟩ = some (.slice fa fv.length fc) := kc.out _ hNr.out 4 _ rfl
    clear he hds
    go_wp2_with fail
    clear hlt
    go_loopg [41] fv.length (fun gh i ws => ∃ (m : Nat) (es : List (ByteArray × PVal)), gh + m = fv.length ∧ i = .int .i64 m ∧ Hid (es = (fn.zip fv).take m) ∧ Hid (CQ (w.heap.size + 2) b wc.heap.size g1 g2 l.length fv.length k n s l es ws) ∧ Hid (Below W2.heap.size W2 ws))
    case atStart => exact ⟨0, [], by omega, rfl, rfl, hcr, hNr⟩
    case round =>
     obtain ⟨m2, es, hm2, rfl, hes, hcs, hNs⟩ := hrel
     clear hcr hNr a4
     by_cases hlt : m2 < fv.length
     ·obtain ⟨x, hx⟩ : ∃ x, fv[m2]? = some x := ⟨_, List.getElem?_eq_getElem hlt⟩
      obtain ⟨nm, hnm⟩ : ∃ nm, fn[m2]? = some nm := ⟨_, List.getElem?_eq_getElem (by have := hfe.out; omega)⟩
      have hzx : (fn.zip fv)[m2]? = some (nm, x) := by rw [List.getElem?_zip_eq_some]; exact ⟨hnm, hx⟩
      obtain ⟨b', off, xs, rfl, hxS, hxc, hxr, hnz⟩ := hF0.out.at_ hnm hx
      have hxn := nodes_mem (List.mem_of_getElem? hx)
      have hxs := hid (take_succ_of hzx)
      have hcx := hid (fun w cs h => hih.out x (by simp only [PVal.nodes]; omega) w cs h)
      have hml : Hid (es.length = m2) := by show _ = _; rw [hes.out, List.length_take, List.length_zip]; have := hfe.out; omega
      have hxr := hid (hxr.later (k1.out _ hNs.out))
      clear hx hxn hnm hzx
      obtain ⟨xk, xn, xt, xl, xfn, xfv⟩ := x
      obtain ⟨xa, xc, xf, xg, rfl, _⟩ := hxr.out.inv
      obtain ⟨d0, d1, d2, d3, d4, d5⟩ := six (cells_later (k1.out _ hNs.out) hxS hxc)
      clear hxc hxS
      replace hnz := hid hnz
      go_upto_region 10 with fail
      obtain ⟨wp, hwp⟩ : ∃ wp, wp = wr.alloc (.cells #[.string nm, .int .i64 xk, .int .i64 xn, .string xt, .slice xa xl.length xc, .slice xf xfv.length xg] 54) := ⟨_, rfl⟩
      have hrx : Hid (wp.heap[wr.heap.size]? = some (.cells #[.string nm, .int .i64 xk, .int .i64 xn, .string xt, .slice xa xl.length xc, .slice xf xfv.length xg] 54 (0, 0))) := by show _ = _; rw [hwp]; exact heap_alloc_new _ _
      have hNp : Hid (Below wr.heap.size wr wp) := by show Below _ _ _; rw [hwp]; exact below_new _ _
      rw [← hwp]
      replace hwp := hid hwp
      have hsz : Hid (wr.heap.size < wp.heap.size) := lt_of_block hrx.out
      have hcp := hid (hcs.out.later hNp.out)
      have hNq := hid (hNs.out.step hNp.out)
      have hX := hid (hxr.out.later (hNp.out.drew))
      clear d0 d1 d2 d3 d4 d5
      refine wp_region_T (CpyF b wr.heap.size (.slice (some ⟨g2, 0, none⟩) es.length fv.length) (.string nm) (.int .i64 xk) (.int .i64 xn) (.string xt) (.slice xa xl.length xc) (.slice xf xfv.length xg)) 10 (by kernel_rfl) ?_
      have hS0 : CpyF b wr.heap.size (.slice (some ⟨g2, 0, none⟩) es.length fv.length) (.string nm) (.int .i64 xk) (.int .i64 xn) (.string xt) (.slice xa xl.length xc) (.slice xf xfv.length xg) wp.drew := cpyF_mk hcp.out.row rfl hrx.out rfl rfl
      ((refine wpAnyT_take (i := 0) (v := ?_) rfl (by kernel_rfl) (by kernel_rfl) (by kernel_rfl) (by kernel_rfl) (by exact fun _ _ _ h => h) (Or.inl ⟨by rfl, ?_⟩) hS0 ?_; rotate_left 1; focus (intro w hSw; unfold CpyF at hSw; (try dsimp only at hSw); go_simp; try with_reducible rfl); (try simp only [List.getElem_toArray, List.getElem_cons_zero, List.getElem_cons_succ, Act.put, List.setIfInBounds_toArray, List.set_cons_zero, List.set_cons_succ])); (refine wpAnyT_take (i := 1) (v := ?_) rfl (by kernel_rfl) (by kernel_rfl) (by kernel_rfl) (by kernel_rfl) (by exact fun _ _ _ h => h) (Or.inl ⟨by rfl, ?_⟩) hS0 ?_; rotate_left 1; focus (intro w hSw; unfold CpyF at hSw; (try dsimp only at hSw); go_simp; try with_reducible rfl); (try simp only [List.getElem_toArray, List.getElem_cons_zero, List.getElem_cons_succ, Act.put, List.setIfInBounds_toArray, List.set_cons_zero, List.set_cons_succ])); (refine wpAnyT_take (i := 2) (v := ?_) rfl (by kernel_rfl) (by kernel_rfl) (by kernel_rfl) (by kernel_rfl) (by exact fun _ _ _ h => h) (Or.inl ⟨by rfl, ?_⟩) hS0 ?_; rotate_left 1; focus (intro w hSw; unfold CpyF at hSw; (try dsimp only at hSw); go_simp; try with_reducible rfl); (try simp only [List.getElem_toArray, List.getElem_cons_zero, List.getElem_cons_succ, Act.put, List.setIfInBounds_toArray, List.set_cons_zero, List.set_cons_succ])); (refine wpAnyT_take (i := 3) (v := ?_) rfl (by kernel_rfl) (by kernel_rfl) (by kernel_rfl) (by kernel_rfl) (by exact fun _ _ _ h => h) (Or.inl ⟨by rfl, ?_⟩) hS0 ?_; rotate_left 1; focus (intro w hSw; unfold CpyF at hSw; (try dsimp only at hSw); go_simp; try with_reducible rfl); (try simp only [List.getElem_toArray, List.getElem_cons_zero, List.getElem_cons_succ, Act.put, List.setIfInBounds_toArray, List.set_cons_zero, List.set_cons_succ])); (refine wpAnyT_take (i := 4) (v := ?_) rfl (by kernel_rfl) (by kernel_rfl) (by kernel_rfl) (by kernel_rfl) (by exact fun _ _ _ h => h) (Or.inl ⟨by rfl, ?_⟩) hS0 ?_; rotate_left 1; focus (intro w hSw; unfold CpyF at hSw; (try dsimp only at hSw); go_simp; try with_reducible rfl); (try simp only [List.getElem_toArray, List.getElem_cons_zero, List.getElem_cons_succ, Act.put, List.setIfInBounds_toArray, List.set_cons_zero, List.set_cons_succ])); (refine wpAnyT_take (i := 5) (v := ?_) rfl (by kernel_rfl) (by kernel_rfl) (by kernel_rfl) (by kernel_rfl) (by exact fun _ _ _ h => h) (Or.inl ⟨by rfl, ?_⟩) hS0 ?_; rotate_left 1; focus (intro w hSw; unfold CpyF at hSw; (try dsimp only at hSw); go_simp; try with_reducible rfl); (try simp only [List.getElem_toArray, List.getElem_cons_zero, List.getElem_cons_succ, Act.put, List.setIfInBounds_toArray, List.set_cons_zero, List.set_cons_succ])))
      clear hS0
      refine wpAnyT_one (i := 6) (by kernel_rfl) rfl (fun K hK => ?_)
      go_simp
      refine (hcx.out _ _ hX.out).mono ?_
      rintro e w6 ⟨cs6, rfl, hr6, h6⟩
      obtain ⟨ya, yc, za, zc, rfl, _⟩ := hr6.inv
      have h6' := hid (show Below wp.heap.size wp w6 from (Below.refl wp.heap.size wp).drew.trans h6)
      have h7 := hid (h6'.out.step (below_new w6 (.cells #[.string nm, .int .i64 xk, .int .i64 xn, .string xt, .slice ya xl.length yc, .slice za xfv.length zc] 54)))
      have hX6 : Hid (RdFlZ (w6.alloc (.cells #[.string nm, .int .i64 xk, .int .i64 xn, .string xt, .slice ya xl.length yc, .slice za xfv.length zc] 54)) (Apart wc.heap.size (w6.alloc (.cells #[.string nm, .int .i64 xk, .int .i64 xn, .string xt, .slice ya xl.length yc, .slice za xfv.length zc] 54)) (.slice (some ⟨g2, 0, none⟩) es.length fv.length)) (nm, .mk xk xn xt xl xfn xfv) [.string nm, .int .i64 xk, .int .i64 xn, .string xt, .slice ya xl.length yc, .slice za xfv.length zc]) := ⟨_, rfl, hnz.out, hr6.free_new _ (fun c hc => cq_apartF hcp.out hc)⟩
      have hcp7 := hid (hcp.out.later h7.out)
      have hlb := hid (Nat.lt_of_lt_of_le hcp.out.hb hcp.out.size)
      have hB7 : Hid (w.heap.size + 2 ≤ (w6.alloc (.cells #[.string nm, .int .i64 xk, .int .i64 xn, .string xt, .slice ya xl.length yc, .slice za xfv.length zc] 54)).heap.size) := Nat.le_trans hcp7.out.lo (Nat.le_of_lt (Nat.lt_of_lt_of_le hcp7.out.hb hcp7.out.size))
      clear hr6 h6
      (refine hK.out _ _ (fun _ => cpyF_mk hcp.out.row rfl hrx.out (h6'.out.block _ hlb.out) (h6'.out.block _ hsz.out)) (fun _ => ?_); clear hK K; (try simp only [Act.put, List.setIfInBounds_toArray, List.set_cons_zero, List.set_cons_succ]))
      refine wpAnyT_one (i := 7) (by kernel_rfl) rfl (fun K hK => ?_)
      go_simp
      (refine hK.out _ _ (fun _ => cpyF_mk hcp.out.row rfl hrx.out (h6'.out.block _ hlb.out) (h6'.out.block _ hsz.out)) (fun _ => ?_); clear hK K; (try simp only [Act.put, List.setIfInBounds_toArray, List.set_cons_zero, List.set_cons_succ]))
      refine wpAnyT_one (i := 8) (by kernel_rfl) rfl (fun K hK => ?_)
      go_simp
      (refine hK.out _ _ (fun _ => cpyF_mk hcp.out.row rfl hrx.out (h7.out.block _ hlb.out) (h7.out.block _ hsz.out)) (fun _ => ?_); clear hK K; (try simp only [Act.put, List.setIfInBounds_toArray, List.set_cons_zero, List.set_cons_succ]))
      refine wpAnyT_one (i := 9) (by kernel_rfl) rfl (fun K hK => ?_)
      refine step_append_g fldZ _ rfl _ _ 23 rfl (w.heap.size + 2) wc.heap.size 54 96 i1 _ Tryz.underlying23 hj hy0 hy1 hy2 rfl (by decide) es _ rfl hcp7.out.ownF ⟨w6.heap.size, 0, none⟩ 1 [.string nm, .int .i64 xk, .int .i64 xn, .string xt, .slice ya xl.length yc, .slice za xfv.length zc] (nm, .mk xk xn xt xl xfn xfv) rfl (cells_new _ _ rfl _ _) hX6.out (by have := hml.out; omega) (by have := hml.out; unfold maxLen; omega) hB7.out ?_
      intro v8 w8 hown8 hg8 hlow8 hst8
      obtain rfl := hst8 g2 fv.length rfl (by have := hml.out; omega)
      have hg8' : World.grownBy _ w8 (some g2) := hg8
      have hp8 := hid (hcp7.out.pushF hown8 hg8' rfl)
      have hb8 := hid (hg8'.block b (Nat.lt_of_lt_of_le hcp7.out.hb hcp7.out.size) (fun e => hcp7.out.d2 (by injection e with e; exact e.symm)))
      have hx8 := hid (hg8'.block wr.heap.size (Nat.lt_of_lt_of_le hsz.out h7.out.size) (fun e => by injection e with e; have := hcs.out.h2; have := hcs.out.size; omega))
      have r8 := hid (hb8.out.trans hcp7.out.row)
      have c4 := box_at (j := 4) r8.out rfl
      have fz := box_free r8.out 4
      clear hown8 hg8 hg8' hlow8 hst8
      (refine hK.out _ _ (fun _ => cpyF_mk hcp.out.row rfl hrx.out (hb8.out.trans (h7.out.block _ hlb.out)) (hx8.out.trans (h7.out.block _ hsz.out))) (fun _ => ?_); clear hK K; (try simp only [Act.put, List.setIfInBounds_toArray]))
      refine wpAnyT_one (i := 10) (by kernel_rfl) rfl (fun K hK => ?_)
      go_simp
      (refine hK.out _ _ (fun h => absurd h (by decide)) (fun _ => ?_); clear hK K; (try simp only [Act.put, List.setIfInBounds_toArray, List.set_cons_zero, List.set_cons_succ]))
      refine wpAnyT_one (i := 11) (by kernel_rfl) rfl (fun K hK => ?_)
      go_simp
      (refine hK.out _ _ (fun h => absurd h (by decide)) (fun _ => ?_); clear hK K; (try simp only [Act.put, List.setIfInBounds_toArray]))
      refine wpAnyT_done (by kernel_rfl) ?_ _
      obtain ⟨q1, q2⟩ := hp8.out
      have hcp9 := hid q1
      have hN9 := hid ((hNq.out.step h7.out).trans (by rw [hWs0.out]; exact q2))
      clear q1 q2 c4 fz
      generalize w8.setCell ⟨b, 4, none⟩ (.slice (some ⟨g2, 0, none⟩) (es.length + 1) fv.length) = w9 at *
      have e7 : IntKind.i64.wrap ((m2 : Int) + 1) = ((m2 + 1 : Nat) : Int) := by rw [IntWalk.i64_in _ (by omega)]; omega
      go_wp2_with fail
      go_roundg (fv.length - (m2 + 1))
      case measure => omega
      case rel => exact ⟨m2 + 1, es ++ [(nm, .mk xk xn xt xl xfn xfv)], by omega, by go_num, by show _ = _; rw [hxs.out, hes.out], hcp9, hN9⟩
     ·have he : (fn.zip fv).take m2 = fn.zip fv := List.take_of_length_le (by rw [List.length_zip]; have := hfe.out; omega)
      have he2 := hid (hes.out.trans he)
      clear he hes
      have b0 := hcs.out.cell (j := 0) rfl
      have b1 := hcs.out.cell (j := 1) rfl
      have b2 := hcs.out.cell (j := 2) rfl
      have b3 := hcs.out.cell (j := 3) rfl
      have b4 := hcs.out.cell (j := 4) rfl
      have rz := kz.out _ hNs.out
      have z0 := box_at (j := 0) rz rfl
      have z1 := box_at (j := 1) rz rfl
      have z2 := box_at (j := 2) rz rfl
      have z3 := box_at (j := 3) rz rfl
      have z4 := box_at (j := 4) rz rfl
      have y0 := box_free rz 0
      have y1 := box_free rz 1
      have y2 := box_free rz 2
      have y3 := box_free rz 3
      have y4 := box_free rz 4
      replace rz := hid rz
      go_wp2_with fail
      have e1 : es.map Prod.fst = fn := by rw [he2.out]; exact List.map_fst_zip (by have := hfe.out; omega)
      have e2 : es.map Prod.snd = fv := by rw [he2.out]; exact List.map_snd_zip (by have := hfe.out; omega)
      have h1 := hcs.out.ownL.readLZ (S := Free (w.heap.size + 2) wr) (fun c hc => ⟨hcs.out.ownL.lt c hc, by obtain ⟨_, _, ho, _⟩ := hcs.out.ownL; exact warm_row ho hc⟩) (fun c hc => ⟨⟨by have := hc.1.1; have := hcs.out.lo; have := hcs.out.hb; omega, hc.1.2.1⟩, hc.2⟩) hlm.2
      have hel : es.length = fv.length := by rw [← e2, List.length_map]
      have h2 := hcs.out.ownF.readFZ (S := Free (w.heap.size + 2) wr) (fun c hc => ⟨hcs.out.ownF.lt c hc, by obtain ⟨_, _, ho, _⟩ := hcs.out.ownF; exact warm_row ho hc⟩) (fun c hc => ⟨⟨by have := hc.1.1; have := hcs.out.lo; have := hcs.out.hb; omega, hc.1.2.1⟩, hc.2⟩) (by have := hfm.2; omega)
      rw [e1, e2] at h2
      have hd := rd_mk hk hn hs h1 h2
      have hd5 : Hid (Rd (set5 wr (w.heap.size + 1) (.int .i64 k) (.int .i64 n) (.string s) (.slice (some ⟨g1, 0, none⟩) l.length l.length) (.slice (some ⟨g2, 0, none⟩) es.length fv.length)) (Free w.heap.size (set5 wr (w.heap.size + 1) (.int .i64 k) (.int .i64 n) (.string s) (.slice (some ⟨g1, 0, none⟩) l.length l.length) (.slice (some ⟨g2, 0, none⟩) es.length fv.length))) (.mk k n s l fn fv) [.int .i64 k, .int .i64 n, .string s, .slice (some ⟨g1, 0, none⟩) l.length l.length, .slice (some ⟨g2, 0, none⟩) es.length fv.length]) :=
       hd.keep (fun c hc => ⟨⟨by have := hc.1.1; omega, by rw [set5_size]; exact hc.1.2⟩, Warm.keep (w := wr) hc.2 (set5_other _ _ _ _ _ _ _ (by have := hc.1.1; omega))⟩) (fun c hc => set5_other _ _ _ _ _ _ _ (by have := hc.1.1; omega))
      have hb5 := hid (set5_below (k1.out _ hNs.out) (by omega : w.heap.size ≤ w.heap.size + 1) (.int .i64 k) (.int .i64 n) (.string s) (.slice (some ⟨g1, 0, none⟩) l.length l.length) (.slice (some ⟨g2, 0, none⟩) es.length fv.length))
      have r5 := set5_box (u0 := .int .i64 k) (u1 := .int .i64 n) (u2 := .string s) (u3 := .slice (some ⟨g1, 0, none⟩) l.length l.length) (u4 := .slice (some ⟨g2, 0, none⟩) es.length fv.length) rz.out
      clear h1 h2 hd e1 e2 hel z0 z1 z2 z3 z4 y0 y1 y2 y3 y4 b0 b1 b2 b3 b4
      have z0 := box_at (j := 0) r5 rfl
      have z1 := box_at (j := 1) r5 rfl
      have z2 := box_at (j := 2) r5 rfl
      have z3 := box_at (j := 3) r5 rfl
      have z4 := box_at (j := 4) r5 rfl
      clear r5
      unfold set5 at hd5 hb5 z0 z1 z2 z3 z4
      refine ⟨rfl, .agg #[.int .i64 k, .int .i64 n, .string s, .slice (some ⟨g1, 0, none⟩) l.length l.length, .slice (some ⟨g2, 0, none⟩) es.length fv.length], ?_, ⟨_, rfl, hd5.out, hb5.out⟩⟩
      generalize ((((wr.setCell ⟨w.heap.size + 1, 0, none⟩ (.int .i64 k)).setCell ⟨w.heap.size + 1, 1, none⟩ (.int .i64 n)).setCell ⟨w.heap.size + 1, 2, none⟩ (.string s)).setCell ⟨w.heap.size + 1, 3, none⟩ (.slice (some ⟨g1, 0, none⟩) l.length l.length)).setCell ⟨w.heap.size + 1, 4, none⟩ (.slice (some ⟨g2, 0, none⟩) es.length fv.length) = w7 at *
      simp [results, Tryz.results30, go_sem, z0, z1, z2, z3, z4]
end Go.Proofs.YthjihdpleclejaaGreatDoor
