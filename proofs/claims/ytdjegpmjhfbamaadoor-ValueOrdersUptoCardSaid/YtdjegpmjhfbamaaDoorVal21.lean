/-
  Walk: the law ValueChain.
-/
import Derived.Test.YtdjegpmjhfbamaaDoorVal18
import Derived.Test.YtdjegpmjhfbamaaDoorVal20
import Derived.Test.YtdjegpmjhfbamaaDoorOrd
namespace Go.Proofs.YtdjegpmjhfbamaaDoor
open Go.RowKit Go.Proofs

theorem three_cells {w w' : World} {A B C : Array Value} {t u v : TypeId} (hb : Below (((w.alloc (.cells A t)).alloc (.cells B u)).alloc (.cells C v)).heap.size (((w.alloc (.cells A t)).alloc (.cells B u)).alloc (.cells C v)) w') :
    (∀ (j : Nat) (x : Value), A[j]? = some x → w'.cell? ⟨w.heap.size, j, none⟩ = some x) ∧ (∀ (j : Nat) (x : Value), B[j]? = some x → w'.cell? ⟨w.heap.size + 1, j, none⟩ = some x) ∧ (∀ (j : Nat) (x : Value), C[j]? = some x → w'.cell? ⟨w.heap.size + 1 + 1, j, none⟩ = some x) := by
  have h2 := two_cells (w := w) (A := A) (B := B) (t := t) (u := u) (below_new ((w.alloc (.cells A t)).alloc (.cells B u)) (.cells C v))
  refine ⟨fun j x h => ?_, fun j x h => ?_, fun j x h => ?_⟩
  · rw [hb.cell (p := ⟨w.heap.size, j, none⟩) (by simp; omega)]; exact h2.1 j x h
  · rw [hb.cell (p := ⟨w.heap.size + 1, j, none⟩) (by simp)]; exact h2.2 j x h
  · have := box_cell (w := (w.alloc (.cells A t)).alloc (.cells B u)) hb h
    simpa using this
theorem three_rd {w : World} {S : Nat → Prop} {V V' V'' : PVal} {c c' c'' : List Value} (h : Rd w S V c) (h' : Rd w S V' c') (h'' : Rd w S V'' c'') : ∀ (i : Nat) (x : PVal) (cs : List Value), [V, V', V''][i]? = some x → [c, c', c''][i]? = some cs → Rd w S x cs := by
  intro i x cs hx hc
  match i with
  | 0 =>
    simp at hx hc
    subst hx hc
    exact h
  | i + 1 => exact two_rd h' h'' i x cs (by simpa using hx) (by simpa using hc)
theorem cmpV_range (V : PVal) : ∀ V', cmpV V V' = -1 ∨ cmpV V V' = 0 ∨ cmpV V V' = 1 := by
  have hx : ∀ {x y : Int}, (x = -1 ∨ x = 0 ∨ x = 1) → (y = -1 ∨ y = 0 ∨ y = 1) → (lex x y = -1 ∨ lex x y = 0 ∨ lex x y = 1) := by
    intro x y h k; unfold lex; split <;> assumption
  have hs : ∀ a b, Lib.compareBytes a b = -1 ∨ Lib.compareBytes a b = 0 ∨ Lib.compareBytes a b = 1 := by
    intro a
    induction a with
    | nil => intro b; cases b <;> simp [Lib.compareBytes]
    | cons x r ih =>
      intro b
      cases b with
      | nil => simp [Lib.compareBytes]
      | cons y r' => rw [Lib.compareBytes]; split; simp; split; simp; exact ih r'
  refine PVal.ind (M := fun V => ∀ V', cmpV V V' = -1 ∨ cmpV V V' = 0 ∨ cmpV V V' = 1) ?_ V
  intro k n s l fn fv hl hf V'
  obtain ⟨k', n', s', l', fn', fv'⟩ := V'
  have hL : ∀ l l' : List PVal, (∀ x ∈ l, ∀ y, cmpV x y = -1 ∨ cmpV x y = 0 ∨ cmpV x y = 1) → (cmpL l l' = -1 ∨ cmpL l l' = 0 ∨ cmpL l l' = 1) := by
    intro l
    induction l with
    | nil => intro l' _; simp [(cmpL_nil l').1]
    | cons x r ih =>
      intro l' h
      cases l' with
      | nil => simp [(cmpL_nil _).2]
      | cons y r' => rw [cmpL_cons]; exact hx (h x (by simp) y) (ih r' (fun z hz => h z (by simp [hz])))
  have hF : ∀ (fv : List PVal) (fn fn' : List ByteArray) (fv' : List PVal), (∀ x ∈ fv, ∀ y, cmpV x y = -1 ∨ cmpV x y = 0 ∨ cmpV x y = 1) → (cmpF fn fv fn' fv' = -1 ∨ cmpF fn fv fn' fv' = 0 ∨ cmpF fn fv fn' fv' = 1) := by
    intro fv
    induction fv with
    | nil => intro fn fn' fv' _; simp [(cmpF_nil fn fn' fv').1]
    | cons x r ih =>
      intro fn fn' fv' h
      match fn, fn', fv' with
      | [], [], [] => simp [cmpF]
      | [], _ :: _, [] => simp [cmpF]
      | _ :: _, [], [] => simp [cmpF]
      | _ :: _, _ :: _, [] => simp [cmpF]
      | [], [], _ :: _ => simp [cmpF]
      | [], _ :: _, _ :: _ => simp [cmpF]
      | _ :: _, [], _ :: _ => simp [cmpF]
      | a :: ar, b :: br, y :: r' => rw [cmpF_cons]; exact hx (hx (hs _ _) (h x (by simp) y)) (ih ar br r' (fun z hz => h z (by simp [hz])))
  rw [cmpV_lex]
  exact hx (icmp_range _ _) (hx (hL l l' hl) (hx (hF fv fn fn' fv' hf) (hx (icmp_range _ _) (hx (hs _ _) (hx (icmp_range _ _) (icmp_range _ _))))))
theorem cmpV_pair (a b c : PVal) : cmpV (listV [c, a]) (listV [c, b]) = cmpV a b := by
  simp [listV, cmpV, cmpL, cmpF, cmpV_same, icmp, scmp_same, orI]
  omega
theorem good_formed {V : PVal} (h : V.good = 0) : V.all formedB = true := by
  unfold PVal.good at h
  by_cases e : V.all formedB = true
  · exact e
  · simp [e] at h


set_option maxRecDepth 100000 in
set_option maxHeartbeats 4000000 in
theorem chain_vast (a b c : PVal) (hvb : vast [a, b, c] = true) (w : World) (csa csb csc : List Value) (hT : Tabs w) (hA : Rd w (Now w) a csa) (hB : Rd w (Now w) b csb) (hC : Rd w (Now w) c csc) :
    Calls Tryd.prog 14 #[.agg csa.toArray, .agg csb.toArray, .agg csc.toArray] w fun e w' => e = .returned (.bool true) ∧ Below w.heap.size w w' := by
  have hT := hid (fun w' hb => Tabs.stays w w' hT hb)
  have haw := hid awake_calls
  have hA0 := hid hA
  have hB0 := hid hB
  have hC0 := hid hC
  have hv := hid (fun la c' w h => vast_calls [a, b, c] la c' w h (by simp))
  have hW3 : Hid (∀ A B C : Obj, Below w.heap.size w (((w.alloc A).alloc B).alloc C)) := fun A B C => ((below_new _ _).step (below_new _ _)).step (below_new _ _)
  rw [hvb] at hv
  obtain ⟨k0, n0, s0, l0, fn0, fv0⟩ := a
  obtain ⟨k1, n1, s1, l1, fn1, fv1⟩ := b
  obtain ⟨k2, n2, s2, l2, fn2, fv2⟩ := c
  obtain ⟨la0, lc0, fa0, fc0, rfl, _⟩ := hA.inv
  obtain ⟨la1, lc1, fa1, fc1, rfl, _⟩ := hB.inv
  obtain ⟨la2, lc2, fa2, fc2, rfl, _⟩ := hC.inv
  clear hA hB hC hvb
  go_enter Tryd.func14, Tryd.ntmps14
  go_wp2_with fail
  refine (haw.out _ (hT.out _ (hW3.out _ _ _))).mono ?_
  rintro e w1 ⟨rfl, h1⟩
  obtain ⟨kA, kB, kC⟩ := three_cells h1
  have A0 := kA 0 _ rfl
  have A1 := kA 1 _ rfl
  have A2 := kA 2 _ rfl
  have A3 := kA 3 _ rfl
  have A4 := kA 4 _ rfl
  have B0 := kB 0 _ rfl
  have B1 := kB 1 _ rfl
  have B2 := kB 2 _ rfl
  have B3 := kB 3 _ rfl
  have B4 := kB 4 _ rfl
  have C0 := kC 0 _ rfl
  have C1 := kC 1 _ rfl
  have C2 := kC 2 _ rfl
  have C3 := kC 3 _ rfl
  have C4 := kC 4 _ rfl
  clear kA kB kC
  have D := hid ((hW3.out _ _ _).step h1)
  go_wp2_with fail
  refine (hv.out _ _ _ (rdL_new (css := [[.int .i64 k0, .int .i64 n0, .string s0, .slice la0 l0.length lc0, .slice fa0 fv0.length fc0], [.int .i64 k1, .int .i64 n1, .string s1, .slice la1 l1.length lc1, .slice fa1 fv1.length fc1], [.int .i64 k2, .int .i64 n2, .string s2, .slice la2 l2.length lc2, .slice fa2 fv2.length fc2]]) rfl rfl rfl (three_rd (hA0.out.later D.out) (hB0.out.later D.out) (hC0.out.later D.out)) (Below.refl _ _) (by simp))).mono ?_
  rintro e w2 ⟨rfl, h2⟩
  go_wp2_with fail
  go_ret
  exact ⟨rfl, (D.out.step (below_new _ _)).step h2⟩
end Go.Proofs.YtdjegpmjhfbamaaDoor
