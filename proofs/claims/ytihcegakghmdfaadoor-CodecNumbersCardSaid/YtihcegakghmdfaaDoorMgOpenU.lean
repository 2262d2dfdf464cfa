/-
  Slices of characters and of bytes that came in, read. No condition beyond the row's own reach.
-/
import Derived.Test.YtihcegakghmdfaaDoorMgRef7
import Derived.ChangeSlices
namespace Go.Proofs.YtihcegakghmdfaaDoor
open Go.RowKit Go.Proofs Go.Lib Go.ChangeShapes Go.WideShapes

/-- Numbers of one kind that lie in memory. -/
def NumsAt (k : IntKind) (w : World) (rs : List Int) (v : Value) : Prop :=
  ∃ a cap, v = .slice a rs.length cap ∧ rs.length ≤ cap ∧ cap ≤ 9223372036854775807 ∧ (∀ x ∈ rs, (Lit.int k x).wf = true) ∧
    (rs = [] ∨ ∃ b off, a = some ⟨b, off, none⟩ ∧ b < w.heap.size ∧ ∀ (j : Nat) (x : Int), rs[j]? = some x → w.cell? ⟨b, off + j, none⟩ = some (.int k x))
theorem bulk_lits {H : Type} (k : IntKind) (l : List Int) : l.length ≤ Rows.uptoBulkAll ((lits k l : List (DataW H))) := by
  induction l with
  | nil => simp
  | cons x r ih =>
    simp only [lits, List.map_cons, Rows.uptoBulkAll, List.length_cons, Rows.uptoBulk] at ih ⊢
    omega
section
variable {H : Type} {enc : TypeId × Value → H} {w : World} {base : Nat} {spare held : _}
set_option maxRecDepth 100000 in
theorem open_nums {t e : TypeId} {k : IntKind} {sz : Nat} {v : Value} {d : DataW H} {p : List MemPlace} {r : Reach} {b0 : Nat} (ht : Tryd.prog.underlying t = some (.slice e)) (he : Tryd.prog.underlying e = some (.int k)) (hc : Tryd.prog.cellsOf e = 1) (hb : Tryd.prog.bytesOf e = sz)
    (hv : Value.okWide Tryd.prog w r b0 t v) (h : DataW.Trod enc Tryd.prog w base spare held t v d p) (hw : ∀ k ∈ DataW.weights Tryd.prog t d, k ≤ reachBytes) :
    ∃ rs, NumsAt k w rs v ∧ rs.length * sz ≤ reachBytes ∧ rs.length ≤ Rows.uptoBulk d := by
  obtain ⟨a, n, c, rfl⟩ : ∃ a n c, v = .slice a n c := okWide_slice ht hv
  obtain ⟨fuel, hf⟩ := h
  rcases open_ints ht he hc hf with ⟨h1, h2⟩ | ⟨a', len, cap, zs, h1, _, hlc, hcm, hzl, h2, hcell, hwf⟩
  · have h1 : Value.slice a n c = .slice none 0 0 := by simpa [Value.cells] using h1
    rw [h1]
    exact ⟨[], ⟨none, 0, rfl, Nat.le_refl _, by simp, by simp, .inl rfl⟩, by simp, by simp⟩
  · have h1 : Value.slice a n c = .slice (some a') len cap := by simpa [Value.cells] using h1
    have hd : d = .slice (lits k (zs.take len)) (lits k (zs.drop len)) := congrArg Prod.fst h2
    rw [h1]
    subst hd
    have hlen : len ≤ zs.length := by rw [hzl]; split <;> omega
    have htl : (zs.take len).length = len := by rw [List.length_take]; omega
    refine ⟨zs.take len, ⟨some a', cap, by rw [htl], by rw [htl]; exact hlc, by unfold maxLen at hcm; omega, fun x hx => hwf x (List.mem_of_mem_take hx), ?_⟩, ?_, ?_⟩
    · by_cases h0 : len = 0
      · left; subst h0; rfl
      · right
        have hc0 := hcell 0 (by omega)
        have hsp := cell_spot (w := w) (a := a') (by have : a'.add 0 = a' := by (cases a'; unfold Addr.add; split <;> simp_all)
                                                     rw [this] at hc0; exact hc0)
        obtain ⟨b, off, sp⟩ := a'
        simp only at hsp
        subst hsp
        refine ⟨b, off, rfl, ?_, fun j x hx => ?_⟩
        · rw [addr_add] at hc0
          exact World.block_lt_of_cell? w _ hc0
        · have hj : j < len := by rw [← htl]; exact (List.getElem?_eq_some_iff.1 hx).1
          have := hcell j (by omega)
          rw [addr_add] at this
          rw [this]
          rw [List.getElem?_take, if_pos hj] at hx
          simp [List.getD, hx]
    · simp only [DataW.weights, ht, hb, List.mem_cons, List.mem_append] at hw
      have := hw _ (.inl rfl)
      simp only [lits, List.length_map, htl] at this
      rw [htl]
      exact Nat.le_trans (Nat.mul_le_mul_right _ (Nat.le_add_right _ _)) this
    · rw [htl]
      have := bulk_lits (H := H) k (zs.take len)
      rw [htl] at this
      simp only [Rows.uptoBulk]
      omega
set_option maxRecDepth 100000 in
theorem open_bytes {v : Value} {d : DataW H} {p : List MemPlace} {r : Reach} {b0 : Nat} (hv : Value.okWide Tryd.prog w r b0 26 v) (h : DataW.Trod enc Tryd.prog w base spare held 26 v d p) (hw : ∀ k ∈ DataW.weights Tryd.prog 26 d, k ≤ reachBytes) :
    ∃ bs, NumsAt .u8 w bs v ∧ bs.length ≤ 140737488351232 ∧ bs.length ≤ Rows.uptoBulk d := by
  obtain ⟨rs, h1, hl, hb⟩ := open_nums (sz := 1) Tryd.underlying26 Tryd.underlying5 (by kernel_rfl) (by kernel_rfl) hv h hw
  exact ⟨rs, h1, by unfold reachBytes at hl; omega, hb⟩
end
end Go.Proofs.YtihcegakghmdfaaDoor
