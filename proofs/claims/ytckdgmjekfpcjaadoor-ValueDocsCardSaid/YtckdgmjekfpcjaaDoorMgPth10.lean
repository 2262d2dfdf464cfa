/-
  Rows of cells that a call owns: copied into, cleared, read element by element. No condition.
  Walks: slices.Clone and Delete at values and at fields: rows of cells of the call's own.
-/
import Derived.Test.YtckdgmjekfpcjaaDoorMgApp
import Derived.Laws.IdiomCopy
import Derived.Laws.OwnMore
import Derived.Lib.AppendZerosOnto
import Derived.Lib.Overlaps
import Derived.Laws.Externs
import Derived.Lib.SliceRun
namespace Go.Proofs.YtckdgmjekfpcjaaDoor
open Go.RowKit Go.Proofs

theorem setCells_row (g : Nat) (t : TypeId) (fz : Nat × Nat) : ∀ (vs : List Value) (o : Nat) (w : World) (cur : Array Value), w.heap[g]? = some (.cells cur t fz) → ∃ cur', (w.setCells g o vs).heap[g]? = some (.cells cur' t fz) ∧ cur'.size = cur.size
  | [], _, w, cur, h => ⟨cur, h, rfl⟩
  | v :: r, o, w, cur, h => by
    have hlt := lt_of_block h
    have h' : w.heap[g] = .cells cur t fz := by simpa [Array.getElem?_eq_getElem hlt] using h
    have h1 : (w.setCell ⟨g, o, none⟩ v).heap[g]? = some (.cells (cur.setIfInBounds o v) t fz) := by
      show (w.heap.modify g _)[g]? = _
      rw [Array.getElem?_eq_getElem (by simpa using hlt), Array.getElem_modify_self, h']
      rfl
    obtain ⟨cur', h2, h3⟩ := setCells_row g t fz r (o + 1) _ _ h1
    exact ⟨cur', h2, by simpa using h3⟩
theorem setCells_grown (g : Nat) : ∀ (vs : List Value) (o : Nat) (w : World), w.grownBy (w.setCells g o vs) (some g)
  | [], _, _ => ⟨rfl, rfl, rfl, Nat.le_refl _, fun _ _ _ => rfl⟩
  | v :: r, o, w => by
    have h := setCells_grown g r (o + 1) (w.setCell ⟨g, o, none⟩ v)
    refine ⟨h.os, h.tape, h.output, Nat.le_trans (by simp [World.setCell]) h.size, fun k hk hne => ?_⟩
    exact (h.block k (by simpa [World.setCell] using hk) hne).trans (Below.heap_setCell _ _ _ _ (fun e => hne (by rw [e])))
theorem own_of_cells {w : World} {base e size g n cap : Nat} {xs : List Value} {cur : Array Value} (hb : base ≤ g) (hr : w.heap[g]? = some (.cells cur e (0, 0))) (hn : n ≤ cap) (hm : cap ≤ maxLen) (hs : cur.size = cap * size) (hx : xs.length = n * size)
    (hc : ∀ (j : Nat) u, xs[j]? = some u → w.cell? ⟨g, j, none⟩ = some u) : w.ownsRow base e size (.slice (some ⟨g, 0, none⟩) n cap) n xs := by
  refine ⟨hx, .inr ⟨g, cap, cur, rfl, hb, hr, hn, hm, hs, ?_⟩⟩
  apply List.ext_getElem?
  intro j
  have hns : n * size ≤ cap * size := Nat.mul_le_mul_right _ hn
  by_cases hj : j < n * size
  · rw [List.getElem?_take, if_pos hj, Array.getElem?_toList]
    have h1 := hc j xs[j] (List.getElem?_eq_getElem (by omega))
    rw [cell_of_row w g j cur e (0, 0) hr] at h1
    rw [h1, List.getElem?_eq_getElem (by omega)]
  · rw [List.getElem?_eq_none (by rw [List.length_take]; omega), List.getElem?_eq_none (by omega)]

section
variable {P : Program}
/-- 'copy' of elements of however many cells: all is read before anything is written. -/
theorem run_copy_multi (w : World) (dT sT ty elem : TypeId) (size b o dLen dCap : Nat) (a : Addr) (sLen sCap : Nat) (cs : List Value)
    (hu : P.underlying dT = some (.slice elem)) (hs : (P.info? elem).map (·.size) = some size) (hn : cs.length = Nat.min sLen dLen * size)
    (hsrc : ∀ j v, cs[j]? = some v → w.cell? (a.add j) = some v) (hc : ∀ j, j < cs.length → (w.cell? ⟨b, o + j, none⟩).isSome = true) (hf : ∀ j, j < cs.length → w.frozen? ⟨b, o + j, none⟩ = false) (h1 : ∀ v ∈ cs, v.oneCell' = true) :
    (Builtin.copy_ #[dT, sT] ty #[.slice (some ⟨b, o, none⟩) dLen dCap, .slice (some a) sLen sCap]).run P w = .ok (goInt (Nat.min sLen dLen)) (w.setCells b o cs) := by
  have hl := run_loadCells_list (P := P) w a cs hsrc
  have hst := run_storeCells_cells (P := P) b o cs 0 w (by simpa using hc) (by simpa using hf) h1
  cases hq : P.info? elem with
  | none => simp [hq] at hs
  | some i =>
    have hi : i.size = size := by simpa [hq] using hs
    simp [Builtin.copy_, run_underlying hu, Builtin.lenOf, Builtin.firstCells, sizeOf, typeInfo, hq, hi, ← hn, hl, hst]
/-- 'clear' of elements of however many cells. -/
theorem run_clear_multi (w : World) (t e ty : TypeId) (z : Value) (zs : List Value) (ht : P.underlying t = some (.slice e)) (hv : ∀ w, (zeroValue e).run P w = .ok z w) (b o n c : Nat) (hn : 0 < n) (hzs : (Builtin.zeroCells z.cells n).toList = zs)
    (h1 : ∀ u ∈ zs, u.oneCell' = true) (hc : ∀ j, j < zs.length → (w.cell? ⟨b, o + j, none⟩).isSome = true) (hf : ∀ j, j < zs.length → w.frozen? ⟨b, o + j, none⟩ = false) :
    (Builtin.clear_ #[t] ty #[.slice (some ⟨b, o, none⟩) n c]).run P w = .ok (.tuple #[]) (w.setCells b o zs) := by
  have hst := run_storeCells_cells (P := P) b o zs 0 w (by simpa using hc) (by simpa using hf) h1
  simp only [Nat.add_zero] at hst
  obtain ⟨m, rfl⟩ : ∃ m, n = m + 1 := ⟨n - 1, by omega⟩
  simp [Builtin.clear_, run_underlying ht, hv, hzs, hst]
theorem wp_builtin_run (w : World) {o : Oper} {a : Act} {K : Act → World → Prop} {Q : Exit → Act → World → Prop} (d s : Operand) (t t' : TypeId)
    (ho : o.op = .call { callee := .builtin .copy, args := #[d, s], argTypes := #[t, t'] }) (v u : Value) (hd : a.eval d = v) (hs : a.eval s = u) {v' : Value} {w' : World}
    (hr : (Builtin.copy_ #[t, t'] o.type #[v, u]).run P w = .ok v' w') (h : K (a.put o.dst v') w') : o.wp P a w K Q := by
  unfold Oper.wp execOp
  simp only [ho, resolve, invoke, builtin, Sem.run_bind, Sem.run_pure, Result.andThen_ok, List.map_toArray, List.map_cons, List.map_nil, hd, hs, hr]
  exact h
theorem wpList_copy_run (w : World) {ops : Array Oper} {rest : List Oper} {o : Oper} {a : Act} {Q : Exit → Act → World → Prop} (hgd : o.guard = none) (d s : Operand) (t t' : TypeId)
    (ho : o.op = .call { callee := .builtin .copy, args := #[d, s], argTypes := #[t, t'] }) (v u : Value) (hd : a.eval d = v) (hs : a.eval s = u) {v' : Value} {w' : World}
    (hr : (Builtin.copy_ #[t, t'] o.type #[v, u]).run P w = .ok v' w') (h : wpList P ops Q rest (a.put o.dst v') w') : wpList P ops Q (o :: rest) a w :=
  wpList_plain hgd fun _ hK => wp_builtin_run w d s t t' ho v u hd hs hr (hK _ _ h)
end

-- elements of so many cells, one behind the other
theorem flat_len {α : Type} (m : Nat) : ∀ (css : List (List α)), (∀ cs ∈ css, cs.length = m) → css.flatten.length = css.length * m
  | [], _ => by simp
  | c :: r, h => by
    rw [List.flatten_cons, List.length_append, h c (by simp), flat_len m r (fun x hx => h x (by simp [hx])), List.length_cons, Nat.succ_mul]; omega
theorem flat_get {α : Type} (m : Nat) : ∀ (css : List (List α)), (∀ cs ∈ css, cs.length = m) → ∀ (j : Nat) (u : α), css.flatten[j]? = some u → ∃ i k cs, css[i]? = some cs ∧ cs[k]? = some u ∧ j = i * m + k
  | [], _, j, u, h => by simp at h
  | c :: r, hl, j, u, h => by
    have hc := hl c (by simp)
    rw [List.flatten_cons, List.getElem?_append] at h
    split at h
    · exact ⟨0, j, c, rfl, h, by omega⟩
    · obtain ⟨i, k, cs, h1, h2, h3⟩ := flat_get m r (fun x hx => hl x (by simp [hx])) _ u h
      exact ⟨i + 1, k, cs, by simpa using h1, h2, by rw [Nat.succ_mul]; omega⟩
theorem flat_set {α : Type} (m : Nat) : ∀ (css : List (List α)), (∀ cs ∈ css, cs.length = m) → ∀ (i k : Nat) (cs : List α) (u : α), css[i]? = some cs → k < m → css.flatten.set (i * m + k) u = (css.set i (cs.set k u)).flatten
  | [], _, i, k, cs, u, h, _ => by simp at h
  | c :: r, hl, 0, k, cs, u, h, hk => by
    obtain rfl : c = cs := by simpa using h
    have hc := hl c (by simp)
    rw [Nat.zero_mul, Nat.zero_add, List.flatten_cons, List.set_cons_zero, List.flatten_cons, List.set_append_left _ _ (by omega)]
  | c :: r, hl, i + 1, k, cs, u, h, hk => by
    have hc := hl c (by simp)
    rw [List.flatten_cons, List.set_cons_succ, List.flatten_cons, Nat.succ_mul, List.set_append_right _ _ (by omega), ← flat_set m r (fun x hx => hl x (by simp [hx])) i k cs u (by simpa using h) hk]
    congr 2
    omega
theorem flat_take {α : Type} (m : Nat) (css : List (List α)) (h : ∀ cs ∈ css, cs.length = m) (i : Nat) : css.flatten.take (i * m) = (css.take i).flatten := by
  induction css generalizing i with
  | nil => simp
  | cons c r ih =>
    have hc := h c (by simp)
    cases i with
    | zero => simp
    | succ i =>
      rw [List.flatten_cons, List.take_succ_cons, List.flatten_cons, ← ih (fun x hx => h x (by simp [hx])), Nat.succ_mul, List.take_append, hc, List.take_of_length_le (by omega)]
      congr 2
      omega
theorem flat_drop {α : Type} (m : Nat) (css : List (List α)) (h : ∀ cs ∈ css, cs.length = m) (i : Nat) : css.flatten.drop (i * m) = (css.drop i).flatten := by
  induction css generalizing i with
  | nil => simp
  | cons c r ih =>
    have hc := h c (by simp)
    cases i with
    | zero => simp
    | succ i =>
      rw [List.flatten_cons, List.drop_succ_cons, ← ih (fun x hx => h x (by simp [hx])), Nat.succ_mul, List.drop_append, hc, List.drop_eq_nil_of_le (by omega), List.nil_append]
      congr 1
      omega
/-- Elements that lie in memory, each of so many cells. -/
def LieAt (w : World) (a : Option Addr) (sz : Nat) (css : List (List Value)) : Prop := (∀ cs ∈ css, cs.length = sz) ∧ (∀ cs ∈ css, ∀ u ∈ cs, u.oneCell' = true) ∧
  (css = [] ∨ ∃ b off, a = some ⟨b, off, none⟩ ∧ b < w.heap.size ∧ ∀ (i : Nat) cs, css[i]? = some cs → ∀ (j : Nat) v, cs[j]? = some v → w.cell? ⟨b, off + i * sz + j, none⟩ = some v)
theorem LieAt.later {w w' : World} {a : Option Addr} {sz : Nat} {css : List (List Value)} (h : LieAt w a sz css) (hb : Below w.heap.size w w') : LieAt w' a sz css := by
  obtain ⟨h1, h2, h3⟩ := h
  refine ⟨h1, h2, ?_⟩
  rcases h3 with h3 | ⟨b, off, h4, h5, h6⟩
  · exact .inl h3
  · exact .inr ⟨b, off, h4, Nat.lt_of_lt_of_le h5 hb.size, fun i cs hi j v hv => (hb.cell (p := ⟨b, _, none⟩) h5).trans (h6 i cs hi j v hv)⟩
theorem LieAt.flat {w : World} {a : Option Addr} {sz : Nat} {css : List (List Value)} (h : LieAt w a sz css) : ∀ ad, a = some ad → ∀ j u, css.flatten[j]? = some u → w.cell? (ad.add j) = some u := fun ad had j u hu => by
  obtain ⟨i, k, cs, h1, h2, h3⟩ := flat_get sz css h.1 j u hu
  rcases h.2.2 with h4 | ⟨b, off, h4, _, h6⟩
  · rw [h4] at h1; simp at h1
  · rw [h4] at had
    injection had with had
    subst had
    rw [addr_at, h3, ← Nat.add_assoc]
    exact h6 i cs h1 k u h2
theorem LieAt.one {w : World} {a : Option Addr} {sz : Nat} {css : List (List Value)} (h : LieAt w a sz css) : ∀ u ∈ css.flatten, u.oneCell' = true := fun u hu => by
  obtain ⟨cs, h1, h2⟩ := List.mem_flatten.1 hu
  exact h.2.1 cs h1 u h2

section
variable {P : Program}
/-- append as one step of a region that draws, its run known. -/
theorem step_append_run {ops : Array Oper} {o : Oper} {a : Act} {w : World} {K : Act → World → Prop} {Q : Exit → Act → World → Prop} {E : Prop}
    (hg : o.guard = none) (d x : Operand) (dT sT : TypeId) (hop : o.op = Op.call { callee := Callee.builtin Builtin.append, args := #[d, x], argTypes := #[dT, sT] })
    (v u : Value) (hd : a.eval d = v) (hx : a.eval x = u) {v' : Value} {w' : World} (hr : (Builtin.append_ #[dT, sT] o.type #[v, u]).run P w = .ok v' w') (hK : K (a.put o.dst v') w') :
    if Region.wanted o (yielded ops a.tmps) = true then Oper.wp P o a w K Q else E := by
  have hw : Region.wanted o (yielded ops a.tmps) = true := by simp [Region.wanted, hg]
  rw [if_pos hw]
  unfold Oper.wp
  simp [execOp, hop, resolve, invoke, builtin, hd, hx, hr, Result.andThen]
  exact hK
/-- 'copy' as one step of a region that draws, its run known. -/
theorem step_copy_run {ops : Array Oper} {o : Oper} {a : Act} {w : World} {K : Act → World → Prop} {Q : Exit → Act → World → Prop} {E : Prop}
    (hg : o.guard = none) (d x : Operand) (dT sT : TypeId) (hop : o.op = Op.call { callee := Callee.builtin Builtin.copy, args := #[d, x], argTypes := #[dT, sT] })
    (v u : Value) (hd : a.eval d = v) (hx : a.eval x = u) {v' : Value} {w' : World} (hr : (Builtin.copy_ #[dT, sT] o.type #[v, u]).run P w = .ok v' w') (hK : K (a.put o.dst v') w') :
    if Region.wanted o (yielded ops a.tmps) = true then Oper.wp P o a w K Q else E := by
  have hw : Region.wanted o (yielded ops a.tmps) = true := by simp [Region.wanted, hg]
  rw [if_pos hw]
  unfold Oper.wp
  simp [execOp, hop, resolve, invoke, builtin, hd, hx, hr, Result.andThen]
  exact hK
end
section
variable {P : Program}
theorem wpList_clear_run (w : World) {ops : Array Oper} {rest : List Oper} {o : Oper} {a : Act} {Q : Exit → Act → World → Prop} (hgd : o.guard = none) (s : Operand) (t : TypeId)
    (ho : o.op = .call { callee := .builtin .clear, args := #[s], argTypes := #[t] }) (v : Value) (hs : a.eval s = v) {v' : Value} {w' : World}
    (hr : (Builtin.clear_ #[t] o.type #[v]).run P w = .ok v' w') (h : wpList P ops Q rest (a.put o.dst v') w') : wpList P ops Q (o :: rest) a w :=
  wpList_plain hgd fun _ hK => by
    unfold Oper.wp execOp
    simp only [ho, resolve, invoke, builtin, Sem.run_bind, Sem.run_pure, Result.andThen_ok, List.map_toArray, List.map_cons, List.map_nil, hs, hr]
    exact hK _ _ h
end
/-- The first elements of a row of the call's own. -/
theorem own_first {w : World} {base e sz g n cap : Nat} {css : List (List Value)} (h : w.ownsRow base e sz (.slice (some ⟨g, 0, none⟩) n cap) n css.flatten) (hs : ∀ cs ∈ css, cs.length = sz) {i : Nat} (hi : i ≤ n) : w.ownsRow base e sz (.slice (some ⟨g, 0, none⟩) i cap) i (css.take i).flatten := by
  rcases h.2 with ⟨h', _⟩ | ⟨g', cap', cur, h', hb, hg, hnc, hcm, hcs, htake⟩
  · simp at h'
  · simp only [Value.slice.injEq, Option.some.injEq, Addr.mk.injEq, and_true, true_and] at h'
    obtain ⟨rfl, rfl⟩ := h'
    have e1 : (css.take i).flatten = css.flatten.take (i * sz) := (flat_take sz css hs i).symm
    have hle : i * sz ≤ n * sz := Nat.mul_le_mul_right _ hi
    refine ⟨by rw [e1, List.length_take, h.1]; omega, .inr ⟨g, cap, cur, rfl, hb, hg, by omega, hcm, hcs, ?_⟩⟩
    rw [e1, ← htake, List.take_take, Nat.min_eq_left hle]
theorem own_size {w : World} {base e sz g n cap m : Nat} {xs : List Value} (h : w.ownsRow base e sz (.slice (some ⟨g, 0, none⟩) n cap) m xs) : n ≤ cap ∧ cap ≤ 9223372036854775807 ∧ base ≤ g ∧ m = n ∧ ∃ cur, w.heap[g]? = some (.cells cur e (0, 0)) ∧ cur.size = cap * sz := by
  rcases h.2 with ⟨h', _⟩ | ⟨g', cap', cur, h', hb, hg, hnc, hcm, hcs, htake⟩
  · simp at h'
  · simp only [Value.slice.injEq, Option.some.injEq, Addr.mk.injEq, and_true] at h'
    obtain ⟨rfl, rfl, rfl⟩ := h'
    exact ⟨hnc, by unfold maxLen at hcm; omega, hb, rfl, cur, hg, hcs⟩
/-- Cells behind the elements may be set. -/
theorem own_setBehind {w : World} {base e sz g n cap : Nat} {xs : List Value} (h : w.ownsRow base e sz (.slice (some ⟨g, 0, none⟩) n cap) n xs) (o : Nat) (vs : List Value) (ho : n * sz ≤ o) : (w.setCells g o vs).ownsRow base e sz (.slice (some ⟨g, 0, none⟩) n cap) n xs := by
  obtain ⟨h1, h2, h3, _, cur, h4, h5⟩ := own_size h
  obtain ⟨cur', h6, h7⟩ := setCells_row g e (0, 0) vs o w cur h4
  refine own_of_cells h3 h6 h1 (by unfold maxLen; omega) (by rw [h7]; exact h5) h.1 (fun j u hj => ?_)
  have hj2 : j < n * sz := by rw [← h.1]; exact (List.getElem?_eq_some_iff.1 hj).1
  rw [World.cell?_setCells_out g vs o w ⟨g, j, none⟩ (fun _ _ => by show j < o ∨ o + vs.length ≤ j; omega), h.cellAt j hj2]
  exact hj
theorem grown_trans {a b c : World} {g : Nat} (h : a.grownBy b (some g)) (k : b.grownBy c (some g)) : a.grownBy c (some g) :=
  ⟨k.os.trans h.os, k.tape.trans h.tape, k.output.trans h.output, Nat.le_trans h.size k.size, fun i hi hne => (k.block i (Nat.lt_of_lt_of_le hi h.size) hne).trans (h.block i hi hne)⟩
theorem own_there {w : World} {base e sz g n cap m : Nat} {xs : List Value} (h : w.ownsRow base e sz (.slice (some ⟨g, 0, none⟩) n cap) m xs) {o : Nat} (ho : o < cap * sz) : (w.cell? ⟨g, o, none⟩).isSome = true := by
  obtain ⟨_, _, _, _, cur, h4, h5⟩ := own_size h
  rw [cell_of_row w g o cur e (0, 0) h4, Array.getElem?_eq_getElem (by omega)]
  rfl
end Go.Proofs.YtckdgmjekfpcjaaDoor

namespace Go.Proofs.YtckdgmjekfpcjaaDoor
open Go.RowKit Go.Proofs


set_option maxRecDepth 100000 in
set_option maxHeartbeats 2000000 in
theorem cloneF_calls {w : World} {a : Option Addr} {c : Nat} {css : List (List Value)} (hA : LieAt w a 6 css) (hn : a = none → css.length = 0) (hl : css.length ≤ 1000000000000) :
    Calls Tryd.prog 15 #[.slice a css.length c] w fun e w' => ∃ v, e = .returned v ∧ Below w.heap.size w w' ∧ w'.ownsRow w.heap.size 33 6 v css.length css.flatten := by
  obtain ⟨i0, hi, hz0, hz1, hz2⟩ := info_parts info_fldc
  have hE0 := fun (w : World) (a : Option Addr) (n c : Nat) => Lib.run_eql_slice_nil (P := Tryd.prog) w 22 33 a n c 0 0 Tryd.underlying22
  have hfl := flat_len 6 css hA.1
  cases a with
  | none =>
    have h0 := hn rfl
    obtain rfl : css = [] := List.length_eq_zero_iff.1 h0
    have hE := hE0 w none 0 c
    clear hE0
    simp only [List.length_nil]
    go_enter Tryd.func15, Tryd.ntmps15
    go_wp2_with fail
    go_ret
    exact ⟨_, rfl, Below.refl _ _, by simpa using World.ownsRow_nil _ _ _ _⟩
  | some ad =>
    have hE := hE0 w (some ad) css.length c
    clear hE0
    have hoE := hid (World.ownsRow_lit (base := w.heap.size) (e := 33) (size := 6) w #[] 0 (Nat.le_refl _) (by decide) rfl)
    have hfa := hid ((hA.later (below_new w (.cells #[] 33))).flat)
    have hone := hid hA.one
    go_enter Tryd.func15, Tryd.ntmps15
    go_wp2_with (at_builtin; (refine wpList_append_own_any _ rfl (.tmp 5) (.tmp 6) 22 rfl w.heap.size 33 i0 (Value.agg #[.string ByteArray.empty, .int .i64 0, .int .i64 0, .string ByteArray.empty, .slice none 0 0, .slice none 0 0]) 6 96 Tryd.underlying22 hi hz0 hz1 hz2 rfl (by decide) _ 0 [] rfl hoE.out (some ad) css.length c css.flatten rfl hfl (fun h => by cases h) hfa.out hone.out (by unfold maxLen; omega) (by omega) (below_new w _).size ?_); intro v2 w2 hown2 hg2)
    go_ret
    rw [Nat.zero_add, List.nil_append] at hown2
    exact ⟨_, rfl, (below_new w _).grown hg2 (below_new w _).size (fun k hk => (hoE.out.lt k hk).1), hown2⟩


end Go.Proofs.YtckdgmjekfpcjaaDoor
