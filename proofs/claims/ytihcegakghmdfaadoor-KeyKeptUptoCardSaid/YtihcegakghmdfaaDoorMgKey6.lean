/-
  Walk: the key's writer: value.
  Walks: the key's writer on every formed value; key.clip, Join, Of.
-/
import Derived.Test.YtihcegakghmdfaaDoorMgKey1
import Derived.Test.YtihcegakghmdfaaDoorMgHel
import Derived.Test.YtihcegakghmdfaaDoorMgKeyP
import Derived.Test.YtihcegakghmdfaaDoorMgApp
import Derived.Test.YtihcegakghmdfaaDoorMgVal21
namespace Go.Proofs.YtihcegakghmdfaaDoor
open Go.RowKit Go.Proofs

/-- What the last region reads: the value's box, and one function of the table. -/
def KvS (A B j : Nat) (a0 a1 a2 a3 a4 f : Value) (x : World) : Prop :=
  x.cell? ⟨A, 0, none⟩ = some a0 ∧ x.cell? ⟨A, 1, none⟩ = some a1 ∧ x.cell? ⟨A, 2, none⟩ = some a2 ∧ x.cell? ⟨A, 3, none⟩ = some a3 ∧ x.cell? ⟨A, 4, none⟩ = some a4 ∧ x.cell? ⟨B, j, none⟩ = some f

set_option maxRecDepth 100000 in
set_option maxHeartbeats 8000000 in
theorem wvalue_walk {g : Nat} {W0 : World} (k n : Int) (s : ByteArray) (vl : List PVal) (fn : List ByteArray) (fv : List PVal) (hk : 1 ≤ k ∧ k ≤ 6) (hs : s.size ≤ 17592186044416) (hv : k = 5 → ∀ x ∈ vl, WVal g W0 x) (hf : k = 6 → ∀ x ∈ fv, WVal g W0 x) : WVal g W0 (.mk k n s vl fn fv) := by
  intro w l v cs h hr hl
  have hly := hid (fun (w' : World) (l1 : List UInt8) (v1 : Value) (h1 : Wt g W0 w' l1 v1) (l' : List UInt8) (q c : Nat) (hs : Src w' q l') (hl : l1.length + l'.length ≤ 140737488355328) => lay_calls h1 l' q c hs hl)
  have hmf : ∀ (fn : Fn) (first cap : Array Value) (w : World), (Instr.makeFunc fn first cap).run Tryd.prog w = .ok (.func fn first cap) w := fun _ _ _ _ => rfl
  have hsf : ∀ (a : Addr) (fn : Fn) (first cap : Array Value) (w : World), (store a (.func fn first cap)).run Tryd.prog w = stored Tryd.prog w a (.func fn first cap) .plain := fun a fn first cap w => run_store Tryd.prog w a _ .plain rfl
  have hsn : ∀ (a : Addr) (w : World), (store a .nilFunc).run Tryd.prog w = stored Tryd.prog w a .nilFunc .plain := fun a w => run_store Tryd.prog w a _ .plain rfl
  obtain ⟨la, lc, fa, fc, rfl, _, hn, _, _, _, _, _, hL, hF⟩ := hr.inv
  have h1 := hid (h.later (below_new w (.cells #[.int .i64 k, .int .i64 n, .string s, .slice la vl.length lc, .slice fa fv.length fc] 25)))
  replace h := hid h
  go_enter Tryd.func87, Tryd.ntmps87
  have r0 : ((w.alloc (.cells #[.int .i64 k, .int .i64 n, .string s, .slice la vl.length lc, .slice fa fv.length fc] 25)).alloc (.cells #[.nilFunc, .nilFunc, .nilFunc, .nilFunc, .nilFunc, .nilFunc, .nilFunc] 137)).heap[w.heap.size + 1]? = some (.cells #[.nilFunc, .nilFunc, .nilFunc, .nilFunc, .nilFunc, .nilFunc, .nilFunc] 137 (0, 0)) := al_at (by simp)
  have b0 := box_at (j := 0) r0 rfl
  have b1 := box_at (j := 1) r0 rfl
  have b2 := box_at (j := 2) r0 rfl
  have b3 := box_at (j := 3) r0 rfl
  have b4 := box_at (j := 4) r0 rfl
  have b5 := box_at (j := 5) r0 rfl
  have b6 := box_at (j := 6) r0 rfl
  have f0 := box_free r0
  replace r0 := hid r0
  go_upto_region 2 with fail
  clear b0 b1 b2 b3 b4 b5 b6 f0
  obtain ⟨w2, hw2⟩ : ∃ w2, w2 = ((w.alloc (.cells #[.int .i64 k, .int .i64 n, .string s, .slice la vl.length lc, .slice fa fv.length fc] 25)).alloc (.cells #[.nilFunc, .func (Fn.func 113) #[.pointer (some ⟨g, 0, none⟩)] #[], .func (Fn.func 114) #[.pointer (some ⟨g, 0, none⟩)] #[], .func (Fn.func 115) #[.pointer (some ⟨g, 0, none⟩)] #[], .func (Fn.func 116) #[.pointer (some ⟨g, 0, none⟩)] #[], .func (Fn.func 117) #[.pointer (some ⟨g, 0, none⟩)] #[], .func (Fn.func 118) #[.pointer (some ⟨g, 0, none⟩)] #[]] 137)) := ⟨_, rfl⟩
  have hb2 : Hid (Below w.heap.size w w2) := by show Below _ _ _; rw [hw2]; exact (below_new _ _).step (below_new _ _)
  have r4 : Hid (w2.heap[w.heap.size + 1]? = some (.cells #[.nilFunc, .func (Fn.func 113) #[.pointer (some ⟨g, 0, none⟩)] #[], .func (Fn.func 114) #[.pointer (some ⟨g, 0, none⟩)] #[], .func (Fn.func 115) #[.pointer (some ⟨g, 0, none⟩)] #[], .func (Fn.func 116) #[.pointer (some ⟨g, 0, none⟩)] #[], .func (Fn.func 117) #[.pointer (some ⟨g, 0, none⟩)] #[], .func (Fn.func 118) #[.pointer (some ⟨g, 0, none⟩)] #[]] 137 (0, 0))) := by show _ = _; rw [hw2]; exact al_at (by simp)
  have r3 : Hid (w2.heap[w.heap.size]? = some (.cells #[.int .i64 k, .int .i64 n, .string s, .slice la vl.length lc, .slice fa fv.length fc] 25 (0, 0))) := by show _ = _; rw [hw2]; exact al_old (al_at rfl)
  rw [← hw2]
  clear hw2 r0 hmf hsf hsn h1
  have a0 := box_at (j := 0) r3.out rfl
  obtain ⟨b, hb⟩ : ∃ b, b = UInt8.ofNat (10 * k % 256).toNat := ⟨_, rfl⟩
  have hbz : (b.toNat : Int) = 10 * k := by rw [hb, UInt8.toNat_ofNat']; omega
  have hw8 : IntKind.u8.wrap (10 * k) = (b.toNat : Int) := by rw [IntKind.wrap_u8]; omega
  have hw64 : IntKind.i64.wrap (10 * k) = 10 * k := by rw [IntWalk.i64_in _ (by omega)]
  replace hb := hid hb
  clear hbz
  go_wp2_with fail
  have hown : v.ownBlock ≠ some w.heap.size := fun e => by have := (h.out.buf.1.lt _ e).2; omega
  have hown1 : v.ownBlock ≠ some (w.heap.size + 1) := fun e => by have := (h.out.buf.1.lt _ e).2; omega
  have hg1 : w.heap.size ≠ g := by have := h.out.lt; omega
  have hg2 : w.heap.size + 1 ≠ g := by have := h.out.lt; omega
  refine (hly.out _ _ _ (h.out.later (hb2.out.step (below_new _ _))) [b] _ _ (src_new [b] _ rfl (by simp)) (by simp only [List.length_singleton]; omega)).mono ?_
  rintro e w5 ⟨v5, rfl, h5, k5⟩
  have hn2 := below_new w2 (.cells #[.int .u8 b.toNat] 5)
  have q3 := (hn2.block _ (lt_of_block r3.out)).trans r3.out
  have q4 := (hn2.block _ (lt_of_block r4.out)).trans r4.out
  have r5 := hid ((k5.block _ (lt_of_block q3) hg1 hown).trans q3)
  have r6 := hid ((k5.block _ (lt_of_block q4) hg2 hown1).trans q4)
  have hk5 := hid ((WK.of_below (g := g) v (hb2.out.step hn2)).trans k5)
  replace h5 := hid h5
  have hlt3 := lt_of_block r4.out
  have o1 : Hid (v5.ownBlock ≠ some w.heap.size) := fun e => by
    rcases k5.own _ e with h | h
    · exact hown h
    · simp at h; omega
  have o2 : Hid (v5.ownBlock ≠ some (w.heap.size + 1)) := fun e => by
    rcases k5.own _ e with h | h
    · exact hown1 h
    · simp at h; omega
  have hgg1 := hid hg1
  have hgg2 := hid hg2
  clear k5 q3 q4 hn2 r3 r4 hown hown1 hg1 hg2 a0 hw8 hw64 hlt3
  have hk6 : k = 1 ∨ k = 2 ∨ k = 3 ∨ k = 4 ∨ k = 5 ∨ k = 6 := by omega
  go_upto_region 3 with fail
  rcases hk6 with rfl | rfl | rfl | rfl | rfl | rfl
  · have hS0 : KvS w.heap.size (w.heap.size + 1) 1 (.int .i64 1) (.int .i64 n) (.string s) (.slice la vl.length lc) (.slice fa fv.length fc) (.func (Fn.func 113) #[.pointer (some ⟨g, 0, none⟩)] #[]) w5.drew := ⟨box_at r5.out rfl, box_at r5.out rfl, box_at r5.out rfl, box_at r5.out rfl, box_at r5.out rfl, box_at r6.out rfl⟩
    refine wp_region_T (KvS w.heap.size (w.heap.size + 1) 1 (.int .i64 1) (.int .i64 n) (.string s) (.slice la vl.length lc) (.slice fa fv.length fc) (.func (Fn.func 113) #[.pointer (some ⟨g, 0, none⟩)] #[])) 7 (by kernel_rfl) ?_
    ((refine wpAnyT_take (i := 0) (v := ?_) rfl (by kernel_rfl) (by kernel_rfl) (by kernel_rfl) (by kernel_rfl) (by exact fun _ _ _ h => h) (Or.inl ⟨by kernel_rfl, ?_⟩) hS0 ?_; rotate_left 1; focus (intro w hSw; unfold KvS at hSw; (try dsimp only at hSw); go_simp; try with_reducible rfl); (try simp only [List.getElem_toArray, List.getElem_cons_zero, List.getElem_cons_succ, Act.put, List.setIfInBounds_toArray, List.set_cons_zero, List.set_cons_succ])); (refine wpAnyT_take (i := 1) (v := ?_) rfl (by kernel_rfl) (by kernel_rfl) (by kernel_rfl) (by kernel_rfl) (by exact fun _ _ _ h => h) (Or.inl ⟨by kernel_rfl, ?_⟩) hS0 ?_; rotate_left 1; focus (intro w hSw; unfold KvS at hSw; (try dsimp only at hSw); go_simp; try with_reducible rfl); (try simp only [List.getElem_toArray, List.getElem_cons_zero, List.getElem_cons_succ, Act.put, List.setIfInBounds_toArray, List.set_cons_zero, List.set_cons_succ])); (refine wpAnyT_take (i := 2) (v := ?_) rfl (by kernel_rfl) (by kernel_rfl) (by kernel_rfl) (by kernel_rfl) (by exact fun _ _ _ h => h) (Or.inl ⟨by kernel_rfl, ?_⟩) hS0 ?_; rotate_left 1; focus (intro w hSw; unfold KvS at hSw; (try dsimp only at hSw); go_simp; try with_reducible rfl); (try simp only [List.getElem_toArray, List.getElem_cons_zero, List.getElem_cons_succ, Act.put, List.setIfInBounds_toArray, List.set_cons_zero, List.set_cons_succ])); (refine wpAnyT_take (i := 3) (v := ?_) rfl (by kernel_rfl) (by kernel_rfl) (by kernel_rfl) (by kernel_rfl) (by exact fun _ _ _ h => h) (Or.inl ⟨by kernel_rfl, ?_⟩) hS0 ?_; rotate_left 1; focus (intro w hSw; unfold KvS at hSw; (try dsimp only at hSw); go_simp; try with_reducible rfl); (try simp only [List.getElem_toArray, List.getElem_cons_zero, List.getElem_cons_succ, Act.put, List.setIfInBounds_toArray, List.set_cons_zero, List.set_cons_succ])); (refine wpAnyT_take (i := 4) (v := ?_) rfl (by kernel_rfl) (by kernel_rfl) (by kernel_rfl) (by kernel_rfl) (by exact fun _ _ _ h => h) (Or.inl ⟨by kernel_rfl, ?_⟩) hS0 ?_; rotate_left 1; focus (intro w hSw; unfold KvS at hSw; (try dsimp only at hSw); go_simp; try with_reducible rfl); (try simp only [List.getElem_toArray, List.getElem_cons_zero, List.getElem_cons_succ, Act.put, List.setIfInBounds_toArray, List.set_cons_zero, List.set_cons_succ])); (refine wpAnyT_take (i := 5) (v := ?_) rfl (by kernel_rfl) (by kernel_rfl) (by kernel_rfl) (by kernel_rfl) (by exact fun _ _ _ h => h) (Or.inl ⟨by kernel_rfl, ?_⟩) hS0 ?_; rotate_left 1; focus (intro w hSw; unfold KvS at hSw; (try dsimp only at hSw); go_simp; try with_reducible rfl); (try simp only [List.getElem_toArray, List.getElem_cons_zero, List.getElem_cons_succ, Act.put, List.setIfInBounds_toArray, List.set_cons_zero, List.set_cons_succ])))
    refine wpAnyT_one (i := 6) (by kernel_rfl) rfl (fun K hK => ?_)
    go_simp
    refine (wnull_calls (h5.out.later (Below.refl _ _).drew) [.int .i64 1, .int .i64 n, .string s, .slice la vl.length lc, .slice fa fv.length fc] rfl).mono ?_
    rintro e w6 ⟨v6, rfl, h6, k6⟩
    have hk7 := hid ((hk5.out.later (Below.refl _ _).drew).trans k6)
    replace h6 := hid h6
    have q5 := (k6.block _ (lt_of_block r5.out) hgg1.out o1.out).trans r5.out
    have q6 := (k6.block _ (lt_of_block r6.out) hgg2.out o2.out).trans r6.out
    clear k6
    (refine hK.out _ _ (fun _ => ⟨box_at q5 rfl, box_at q5 rfl, box_at q5 rfl, box_at q5 rfl, box_at q5 rfl, box_at q6 rfl⟩) (fun _ => ?_); clear hK K; (try simp only [Act.put, List.setIfInBounds_toArray, List.set_cons_zero, List.set_cons_succ]))
    refine wpAnyT_done (by kernel_rfl) ?_ _
    go_wp2_with fail
    go_returns
    have hbk : b = 10 := by rw [hb.out]; rfl
    exact ⟨_, rfl, by simpa [PVal.key, hbk] using h6.out, hk7.out⟩
  · have hS0 : KvS w.heap.size (w.heap.size + 1) 2 (.int .i64 2) (.int .i64 n) (.string s) (.slice la vl.length lc) (.slice fa fv.length fc) (.func (Fn.func 114) #[.pointer (some ⟨g, 0, none⟩)] #[]) w5.drew := ⟨box_at r5.out rfl, box_at r5.out rfl, box_at r5.out rfl, box_at r5.out rfl, box_at r5.out rfl, box_at r6.out rfl⟩
    refine wp_region_T (KvS w.heap.size (w.heap.size + 1) 2 (.int .i64 2) (.int .i64 n) (.string s) (.slice la vl.length lc) (.slice fa fv.length fc) (.func (Fn.func 114) #[.pointer (some ⟨g, 0, none⟩)] #[])) 7 (by kernel_rfl) ?_
    ((refine wpAnyT_take (i := 0) (v := ?_) rfl (by kernel_rfl) (by kernel_rfl) (by kernel_rfl) (by kernel_rfl) (by exact fun _ _ _ h => h) (Or.inl ⟨by kernel_rfl, ?_⟩) hS0 ?_; rotate_left 1; focus (intro w hSw; unfold KvS at hSw; (try dsimp only at hSw); go_simp; try with_reducible rfl); (try simp only [List.getElem_toArray, List.getElem_cons_zero, List.getElem_cons_succ, Act.put, List.setIfInBounds_toArray, List.set_cons_zero, List.set_cons_succ])); (refine wpAnyT_take (i := 1) (v := ?_) rfl (by kernel_rfl) (by kernel_rfl) (by kernel_rfl) (by kernel_rfl) (by exact fun _ _ _ h => h) (Or.inl ⟨by kernel_rfl, ?_⟩) hS0 ?_; rotate_left 1; focus (intro w hSw; unfold KvS at hSw; (try dsimp only at hSw); go_simp; try with_reducible rfl); (try simp only [List.getElem_toArray, List.getElem_cons_zero, List.getElem_cons_succ, Act.put, List.setIfInBounds_toArray, List.set_cons_zero, List.set_cons_succ])); (refine wpAnyT_take (i := 2) (v := ?_) rfl (by kernel_rfl) (by kernel_rfl) (by kernel_rfl) (by kernel_rfl) (by exact fun _ _ _ h => h) (Or.inl ⟨by kernel_rfl, ?_⟩) hS0 ?_; rotate_left 1; focus (intro w hSw; unfold KvS at hSw; (try dsimp only at hSw); go_simp; try with_reducible rfl); (try simp only [List.getElem_toArray, List.getElem_cons_zero, List.getElem_cons_succ, Act.put, List.setIfInBounds_toArray, List.set_cons_zero, List.set_cons_succ])); (refine wpAnyT_take (i := 3) (v := ?_) rfl (by kernel_rfl) (by kernel_rfl) (by kernel_rfl) (by kernel_rfl) (by exact fun _ _ _ h => h) (Or.inl ⟨by kernel_rfl, ?_⟩) hS0 ?_; rotate_left 1; focus (intro w hSw; unfold KvS at hSw; (try dsimp only at hSw); go_simp; try with_reducible rfl); (try simp only [List.getElem_toArray, List.getElem_cons_zero, List.getElem_cons_succ, Act.put, List.setIfInBounds_toArray, List.set_cons_zero, List.set_cons_succ])); (refine wpAnyT_take (i := 4) (v := ?_) rfl (by kernel_rfl) (by kernel_rfl) (by kernel_rfl) (by kernel_rfl) (by exact fun _ _ _ h => h) (Or.inl ⟨by kernel_rfl, ?_⟩) hS0 ?_; rotate_left 1; focus (intro w hSw; unfold KvS at hSw; (try dsimp only at hSw); go_simp; try with_reducible rfl); (try simp only [List.getElem_toArray, List.getElem_cons_zero, List.getElem_cons_succ, Act.put, List.setIfInBounds_toArray, List.set_cons_zero, List.set_cons_succ])); (refine wpAnyT_take (i := 5) (v := ?_) rfl (by kernel_rfl) (by kernel_rfl) (by kernel_rfl) (by kernel_rfl) (by exact fun _ _ _ h => h) (Or.inl ⟨by kernel_rfl, ?_⟩) hS0 ?_; rotate_left 1; focus (intro w hSw; unfold KvS at hSw; (try dsimp only at hSw); go_simp; try with_reducible rfl); (try simp only [List.getElem_toArray, List.getElem_cons_zero, List.getElem_cons_succ, Act.put, List.setIfInBounds_toArray, List.set_cons_zero, List.set_cons_succ])))
    refine wpAnyT_one (i := 6) (by kernel_rfl) rfl (fun K hK => ?_)
    go_simp
    refine (wbool_calls (h5.out.later (Below.refl _ _).drew) (by rw [List.length_append]; simp only [List.length_singleton]; omega) 2 n s _ _).mono ?_
    rintro e w6 ⟨v6, rfl, h6, k6⟩
    have hk7 := hid ((hk5.out.later (Below.refl _ _).drew).trans k6)
    replace h6 := hid h6
    have q5 := (k6.block _ (lt_of_block r5.out) hgg1.out o1.out).trans r5.out
    have q6 := (k6.block _ (lt_of_block r6.out) hgg2.out o2.out).trans r6.out
    clear k6
    (refine hK.out _ _ (fun _ => ⟨box_at q5 rfl, box_at q5 rfl, box_at q5 rfl, box_at q5 rfl, box_at q5 rfl, box_at q6 rfl⟩) (fun _ => ?_); clear hK K; (try simp only [Act.put, List.setIfInBounds_toArray, List.set_cons_zero, List.set_cons_succ]))
    refine wpAnyT_done (by kernel_rfl) ?_ _
    go_wp2_with fail
    go_returns
    have hbk : b = 20 := by rw [hb.out]; rfl
    exact ⟨_, rfl, by simpa [PVal.key, hbk] using h6.out, hk7.out⟩
  · have hS0 : KvS w.heap.size (w.heap.size + 1) 3 (.int .i64 3) (.int .i64 n) (.string s) (.slice la vl.length lc) (.slice fa fv.length fc) (.func (Fn.func 115) #[.pointer (some ⟨g, 0, none⟩)] #[]) w5.drew := ⟨box_at r5.out rfl, box_at r5.out rfl, box_at r5.out rfl, box_at r5.out rfl, box_at r5.out rfl, box_at r6.out rfl⟩
    refine wp_region_T (KvS w.heap.size (w.heap.size + 1) 3 (.int .i64 3) (.int .i64 n) (.string s) (.slice la vl.length lc) (.slice fa fv.length fc) (.func (Fn.func 115) #[.pointer (some ⟨g, 0, none⟩)] #[])) 7 (by kernel_rfl) ?_
    ((refine wpAnyT_take (i := 0) (v := ?_) rfl (by kernel_rfl) (by kernel_rfl) (by kernel_rfl) (by kernel_rfl) (by exact fun _ _ _ h => h) (Or.inl ⟨by kernel_rfl, ?_⟩) hS0 ?_; rotate_left 1; focus (intro w hSw; unfold KvS at hSw; (try dsimp only at hSw); go_simp; try with_reducible rfl); (try simp only [List.getElem_toArray, List.getElem_cons_zero, List.getElem_cons_succ, Act.put, List.setIfInBounds_toArray, List.set_cons_zero, List.set_cons_succ])); (refine wpAnyT_take (i := 1) (v := ?_) rfl (by kernel_rfl) (by kernel_rfl) (by kernel_rfl) (by kernel_rfl) (by exact fun _ _ _ h => h) (Or.inl ⟨by kernel_rfl, ?_⟩) hS0 ?_; rotate_left 1; focus (intro w hSw; unfold KvS at hSw; (try dsimp only at hSw); go_simp; try with_reducible rfl); (try simp only [List.getElem_toArray, List.getElem_cons_zero, List.getElem_cons_succ, Act.put, List.setIfInBounds_toArray, List.set_cons_zero, List.set_cons_succ])); (refine wpAnyT_take (i := 2) (v := ?_) rfl (by kernel_rfl) (by kernel_rfl) (by kernel_rfl) (by kernel_rfl) (by exact fun _ _ _ h => h) (Or.inl ⟨by kernel_rfl, ?_⟩) hS0 ?_; rotate_left 1; focus (intro w hSw; unfold KvS at hSw; (try dsimp only at hSw); go_simp; try with_reducible rfl); (try simp only [List.getElem_toArray, List.getElem_cons_zero, List.getElem_cons_succ, Act.put, List.setIfInBounds_toArray, List.set_cons_zero, List.set_cons_succ])); (refine wpAnyT_take (i := 3) (v := ?_) rfl (by kernel_rfl) (by kernel_rfl) (by kernel_rfl) (by kernel_rfl) (by exact fun _ _ _ h => h) (Or.inl ⟨by kernel_rfl, ?_⟩) hS0 ?_; rotate_left 1; focus (intro w hSw; unfold KvS at hSw; (try dsimp only at hSw); go_simp; try with_reducible rfl); (try simp only [List.getElem_toArray, List.getElem_cons_zero, List.getElem_cons_succ, Act.put, List.setIfInBounds_toArray, List.set_cons_zero, List.set_cons_succ])); (refine wpAnyT_take (i := 4) (v := ?_) rfl (by kernel_rfl) (by kernel_rfl) (by kernel_rfl) (by kernel_rfl) (by exact fun _ _ _ h => h) (Or.inl ⟨by kernel_rfl, ?_⟩) hS0 ?_; rotate_left 1; focus (intro w hSw; unfold KvS at hSw; (try dsimp only at hSw); go_simp; try with_reducible rfl); (try simp only [List.getElem_toArray, List.getElem_cons_zero, List.getElem_cons_succ, Act.put, List.setIfInBounds_toArray, List.set_cons_zero, List.set_cons_succ])); (refine wpAnyT_take (i := 5) (v := ?_) rfl (by kernel_rfl) (by kernel_rfl) (by kernel_rfl) (by kernel_rfl) (by exact fun _ _ _ h => h) (Or.inl ⟨by kernel_rfl, ?_⟩) hS0 ?_; rotate_left 1; focus (intro w hSw; unfold KvS at hSw; (try dsimp only at hSw); go_simp; try with_reducible rfl); (try simp only [List.getElem_toArray, List.getElem_cons_zero, List.getElem_cons_succ, Act.put, List.setIfInBounds_toArray, List.set_cons_zero, List.set_cons_succ])))
    refine wpAnyT_one (i := 6) (by kernel_rfl) rfl (fun K hK => ?_)
    go_simp
    refine (wint_calls (h5.out.later (Below.refl _ _).drew) (by rw [List.length_append]; simp only [List.length_singleton]; omega) 3 n hn s _ _).mono ?_
    rintro e w6 ⟨v6, rfl, h6, k6⟩
    have hk7 := hid ((hk5.out.later (Below.refl _ _).drew).trans k6)
    replace h6 := hid h6
    have q5 := (k6.block _ (lt_of_block r5.out) hgg1.out o1.out).trans r5.out
    have q6 := (k6.block _ (lt_of_block r6.out) hgg2.out o2.out).trans r6.out
    clear k6
    (refine hK.out _ _ (fun _ => ⟨box_at q5 rfl, box_at q5 rfl, box_at q5 rfl, box_at q5 rfl, box_at q5 rfl, box_at q6 rfl⟩) (fun _ => ?_); clear hK K; (try simp only [Act.put, List.setIfInBounds_toArray, List.set_cons_zero, List.set_cons_succ]))
    refine wpAnyT_done (by kernel_rfl) ?_ _
    go_wp2_with fail
    go_returns
    have hbk : b = 30 := by rw [hb.out]; rfl
    exact ⟨_, rfl, by simpa [PVal.key, hbk] using h6.out, hk7.out⟩
  · have hS0 : KvS w.heap.size (w.heap.size + 1) 4 (.int .i64 4) (.int .i64 n) (.string s) (.slice la vl.length lc) (.slice fa fv.length fc) (.func (Fn.func 116) #[.pointer (some ⟨g, 0, none⟩)] #[]) w5.drew := ⟨box_at r5.out rfl, box_at r5.out rfl, box_at r5.out rfl, box_at r5.out rfl, box_at r5.out rfl, box_at r6.out rfl⟩
    refine wp_region_T (KvS w.heap.size (w.heap.size + 1) 4 (.int .i64 4) (.int .i64 n) (.string s) (.slice la vl.length lc) (.slice fa fv.length fc) (.func (Fn.func 116) #[.pointer (some ⟨g, 0, none⟩)] #[])) 7 (by kernel_rfl) ?_
    ((refine wpAnyT_take (i := 0) (v := ?_) rfl (by kernel_rfl) (by kernel_rfl) (by kernel_rfl) (by kernel_rfl) (by exact fun _ _ _ h => h) (Or.inl ⟨by kernel_rfl, ?_⟩) hS0 ?_; rotate_left 1; focus (intro w hSw; unfold KvS at hSw; (try dsimp only at hSw); go_simp; try with_reducible rfl); (try simp only [List.getElem_toArray, List.getElem_cons_zero, List.getElem_cons_succ, Act.put, List.setIfInBounds_toArray, List.set_cons_zero, List.set_cons_succ])); (refine wpAnyT_take (i := 1) (v := ?_) rfl (by kernel_rfl) (by kernel_rfl) (by kernel_rfl) (by kernel_rfl) (by exact fun _ _ _ h => h) (Or.inl ⟨by kernel_rfl, ?_⟩) hS0 ?_; rotate_left 1; focus (intro w hSw; unfold KvS at hSw; (try dsimp only at hSw); go_simp; try with_reducible rfl); (try simp only [List.getElem_toArray, List.getElem_cons_zero, List.getElem_cons_succ, Act.put, List.setIfInBounds_toArray, List.set_cons_zero, List.set_cons_succ])); (refine wpAnyT_take (i := 2) (v := ?_) rfl (by kernel_rfl) (by kernel_rfl) (by kernel_rfl) (by kernel_rfl) (by exact fun _ _ _ h => h) (Or.inl ⟨by kernel_rfl, ?_⟩) hS0 ?_; rotate_left 1; focus (intro w hSw; unfold KvS at hSw; (try dsimp only at hSw); go_simp; try with_reducible rfl); (try simp only [List.getElem_toArray, List.getElem_cons_zero, List.getElem_cons_succ, Act.put, List.setIfInBounds_toArray, List.set_cons_zero, List.set_cons_succ])); (refine wpAnyT_take (i := 3) (v := ?_) rfl (by kernel_rfl) (by kernel_rfl) (by kernel_rfl) (by kernel_rfl) (by exact fun _ _ _ h => h) (Or.inl ⟨by kernel_rfl, ?_⟩) hS0 ?_; rotate_left 1; focus (intro w hSw; unfold KvS at hSw; (try dsimp only at hSw); go_simp; try with_reducible rfl); (try simp only [List.getElem_toArray, List.getElem_cons_zero, List.getElem_cons_succ, Act.put, List.setIfInBounds_toArray, List.set_cons_zero, List.set_cons_succ])); (refine wpAnyT_take (i := 4) (v := ?_) rfl (by kernel_rfl) (by kernel_rfl) (by kernel_rfl) (by kernel_rfl) (by exact fun _ _ _ h => h) (Or.inl ⟨by kernel_rfl, ?_⟩) hS0 ?_; rotate_left 1; focus (intro w hSw; unfold KvS at hSw; (try dsimp only at hSw); go_simp; try with_reducible rfl); (try simp only [List.getElem_toArray, List.getElem_cons_zero, List.getElem_cons_succ, Act.put, List.setIfInBounds_toArray, List.set_cons_zero, List.set_cons_succ])); (refine wpAnyT_take (i := 5) (v := ?_) rfl (by kernel_rfl) (by kernel_rfl) (by kernel_rfl) (by kernel_rfl) (by exact fun _ _ _ h => h) (Or.inl ⟨by kernel_rfl, ?_⟩) hS0 ?_; rotate_left 1; focus (intro w hSw; unfold KvS at hSw; (try dsimp only at hSw); go_simp; try with_reducible rfl); (try simp only [List.getElem_toArray, List.getElem_cons_zero, List.getElem_cons_succ, Act.put, List.setIfInBounds_toArray, List.set_cons_zero, List.set_cons_succ])))
    refine wpAnyT_one (i := 6) (by kernel_rfl) rfl (fun K hK => ?_)
    go_simp
    refine (wstring_calls (h5.out.later (Below.refl _ _).drew) (by rw [List.length_append]; simp only [List.length_singleton]; omega) 4 n s hs _ _).mono ?_
    rintro e w6 ⟨v6, rfl, h6, k6⟩
    have hk7 := hid ((hk5.out.later (Below.refl _ _).drew).trans k6)
    replace h6 := hid h6
    have q5 := (k6.block _ (lt_of_block r5.out) hgg1.out o1.out).trans r5.out
    have q6 := (k6.block _ (lt_of_block r6.out) hgg2.out o2.out).trans r6.out
    clear k6
    (refine hK.out _ _ (fun _ => ⟨box_at q5 rfl, box_at q5 rfl, box_at q5 rfl, box_at q5 rfl, box_at q5 rfl, box_at q6 rfl⟩) (fun _ => ?_); clear hK K; (try simp only [Act.put, List.setIfInBounds_toArray, List.set_cons_zero, List.set_cons_succ]))
    refine wpAnyT_done (by kernel_rfl) ?_ _
    go_wp2_with fail
    go_returns
    have hbk : b = 40 := by rw [hb.out]; rfl
    exact ⟨_, rfl, by simpa [PVal.key, hbk] using h6.out, hk7.out⟩
  · have hS0 : KvS w.heap.size (w.heap.size + 1) 5 (.int .i64 5) (.int .i64 n) (.string s) (.slice la vl.length lc) (.slice fa fv.length fc) (.func (Fn.func 117) #[.pointer (some ⟨g, 0, none⟩)] #[]) w5.drew := ⟨box_at r5.out rfl, box_at r5.out rfl, box_at r5.out rfl, box_at r5.out rfl, box_at r5.out rfl, box_at r6.out rfl⟩
    refine wp_region_T (KvS w.heap.size (w.heap.size + 1) 5 (.int .i64 5) (.int .i64 n) (.string s) (.slice la vl.length lc) (.slice fa fv.length fc) (.func (Fn.func 117) #[.pointer (some ⟨g, 0, none⟩)] #[])) 7 (by kernel_rfl) ?_
    ((refine wpAnyT_take (i := 0) (v := ?_) rfl (by kernel_rfl) (by kernel_rfl) (by kernel_rfl) (by kernel_rfl) (by exact fun _ _ _ h => h) (Or.inl ⟨by kernel_rfl, ?_⟩) hS0 ?_; rotate_left 1; focus (intro w hSw; unfold KvS at hSw; (try dsimp only at hSw); go_simp; try with_reducible rfl); (try simp only [List.getElem_toArray, List.getElem_cons_zero, List.getElem_cons_succ, Act.put, List.setIfInBounds_toArray, List.set_cons_zero, List.set_cons_succ])); (refine wpAnyT_take (i := 1) (v := ?_) rfl (by kernel_rfl) (by kernel_rfl) (by kernel_rfl) (by kernel_rfl) (by exact fun _ _ _ h => h) (Or.inl ⟨by kernel_rfl, ?_⟩) hS0 ?_; rotate_left 1; focus (intro w hSw; unfold KvS at hSw; (try dsimp only at hSw); go_simp; try with_reducible rfl); (try simp only [List.getElem_toArray, List.getElem_cons_zero, List.getElem_cons_succ, Act.put, List.setIfInBounds_toArray, List.set_cons_zero, List.set_cons_succ])); (refine wpAnyT_take (i := 2) (v := ?_) rfl (by kernel_rfl) (by kernel_rfl) (by kernel_rfl) (by kernel_rfl) (by exact fun _ _ _ h => h) (Or.inl ⟨by kernel_rfl, ?_⟩) hS0 ?_; rotate_left 1; focus (intro w hSw; unfold KvS at hSw; (try dsimp only at hSw); go_simp; try with_reducible rfl); (try simp only [List.getElem_toArray, List.getElem_cons_zero, List.getElem_cons_succ, Act.put, List.setIfInBounds_toArray, List.set_cons_zero, List.set_cons_succ])); (refine wpAnyT_take (i := 3) (v := ?_) rfl (by kernel_rfl) (by kernel_rfl) (by kernel_rfl) (by kernel_rfl) (by exact fun _ _ _ h => h) (Or.inl ⟨by kernel_rfl, ?_⟩) hS0 ?_; rotate_left 1; focus (intro w hSw; unfold KvS at hSw; (try dsimp only at hSw); go_simp; try with_reducible rfl); (try simp only [List.getElem_toArray, List.getElem_cons_zero, List.getElem_cons_succ, Act.put, List.setIfInBounds_toArray, List.set_cons_zero, List.set_cons_succ])); (refine wpAnyT_take (i := 4) (v := ?_) rfl (by kernel_rfl) (by kernel_rfl) (by kernel_rfl) (by kernel_rfl) (by exact fun _ _ _ h => h) (Or.inl ⟨by kernel_rfl, ?_⟩) hS0 ?_; rotate_left 1; focus (intro w hSw; unfold KvS at hSw; (try dsimp only at hSw); go_simp; try with_reducible rfl); (try simp only [List.getElem_toArray, List.getElem_cons_zero, List.getElem_cons_succ, Act.put, List.setIfInBounds_toArray, List.set_cons_zero, List.set_cons_succ])); (refine wpAnyT_take (i := 5) (v := ?_) rfl (by kernel_rfl) (by kernel_rfl) (by kernel_rfl) (by kernel_rfl) (by exact fun _ _ _ h => h) (Or.inl ⟨by kernel_rfl, ?_⟩) hS0 ?_; rotate_left 1; focus (intro w hSw; unfold KvS at hSw; (try dsimp only at hSw); go_simp; try with_reducible rfl); (try simp only [List.getElem_toArray, List.getElem_cons_zero, List.getElem_cons_succ, Act.put, List.setIfInBounds_toArray, List.set_cons_zero, List.set_cons_succ])))
    refine wpAnyT_one (i := 6) (by kernel_rfl) rfl (fun K hK => ?_)
    go_simp
    refine (wlist_calls (h5.out.later (Below.refl _ _).drew) 5 n s vl la lc _ (hv rfl) (h.out.rdL (h5.out.later (Below.refl _ _).drew) hL) (by simp [PVal.key] at hl; rw [List.length_append]; simp only [List.length_singleton]; omega)).mono ?_
    rintro e w6 ⟨v6, rfl, h6, k6⟩
    have hk7 := hid ((hk5.out.later (Below.refl _ _).drew).trans k6)
    replace h6 := hid h6
    have q5 := (k6.block _ (lt_of_block r5.out) hgg1.out o1.out).trans r5.out
    have q6 := (k6.block _ (lt_of_block r6.out) hgg2.out o2.out).trans r6.out
    clear k6
    (refine hK.out _ _ (fun _ => ⟨box_at q5 rfl, box_at q5 rfl, box_at q5 rfl, box_at q5 rfl, box_at q5 rfl, box_at q6 rfl⟩) (fun _ => ?_); clear hK K; (try simp only [Act.put, List.setIfInBounds_toArray, List.set_cons_zero, List.set_cons_succ]))
    refine wpAnyT_done (by kernel_rfl) ?_ _
    go_wp2_with fail
    go_returns
    have hbk : b = 50 := by rw [hb.out]; rfl
    exact ⟨rfl, _, by simpa [PVal.key, hbk] using h6.out, hk7.out⟩
  · have hS0 : KvS w.heap.size (w.heap.size + 1) 6 (.int .i64 6) (.int .i64 n) (.string s) (.slice la vl.length lc) (.slice fa fv.length fc) (.func (Fn.func 118) #[.pointer (some ⟨g, 0, none⟩)] #[]) w5.drew := ⟨box_at r5.out rfl, box_at r5.out rfl, box_at r5.out rfl, box_at r5.out rfl, box_at r5.out rfl, box_at r6.out rfl⟩
    refine wp_region_T (KvS w.heap.size (w.heap.size + 1) 6 (.int .i64 6) (.int .i64 n) (.string s) (.slice la vl.length lc) (.slice fa fv.length fc) (.func (Fn.func 118) #[.pointer (some ⟨g, 0, none⟩)] #[])) 7 (by kernel_rfl) ?_
    ((refine wpAnyT_take (i := 0) (v := ?_) rfl (by kernel_rfl) (by kernel_rfl) (by kernel_rfl) (by kernel_rfl) (by exact fun _ _ _ h => h) (Or.inl ⟨by kernel_rfl, ?_⟩) hS0 ?_; rotate_left 1; focus (intro w hSw; unfold KvS at hSw; (try dsimp only at hSw); go_simp; try with_reducible rfl); (try simp only [List.getElem_toArray, List.getElem_cons_zero, List.getElem_cons_succ, Act.put, List.setIfInBounds_toArray, List.set_cons_zero, List.set_cons_succ])); (refine wpAnyT_take (i := 1) (v := ?_) rfl (by kernel_rfl) (by kernel_rfl) (by kernel_rfl) (by kernel_rfl) (by exact fun _ _ _ h => h) (Or.inl ⟨by kernel_rfl, ?_⟩) hS0 ?_; rotate_left 1; focus (intro w hSw; unfold KvS at hSw; (try dsimp only at hSw); go_simp; try with_reducible rfl); (try simp only [List.getElem_toArray, List.getElem_cons_zero, List.getElem_cons_succ, Act.put, List.setIfInBounds_toArray, List.set_cons_zero, List.set_cons_succ])); (refine wpAnyT_take (i := 2) (v := ?_) rfl (by kernel_rfl) (by kernel_rfl) (by kernel_rfl) (by kernel_rfl) (by exact fun _ _ _ h => h) (Or.inl ⟨by kernel_rfl, ?_⟩) hS0 ?_; rotate_left 1; focus (intro w hSw; unfold KvS at hSw; (try dsimp only at hSw); go_simp; try with_reducible rfl); (try simp only [List.getElem_toArray, List.getElem_cons_zero, List.getElem_cons_succ, Act.put, List.setIfInBounds_toArray, List.set_cons_zero, List.set_cons_succ])); (refine wpAnyT_take (i := 3) (v := ?_) rfl (by kernel_rfl) (by kernel_rfl) (by kernel_rfl) (by kernel_rfl) (by exact fun _ _ _ h => h) (Or.inl ⟨by kernel_rfl, ?_⟩) hS0 ?_; rotate_left 1; focus (intro w hSw; unfold KvS at hSw; (try dsimp only at hSw); go_simp; try with_reducible rfl); (try simp only [List.getElem_toArray, List.getElem_cons_zero, List.getElem_cons_succ, Act.put, List.setIfInBounds_toArray, List.set_cons_zero, List.set_cons_succ])); (refine wpAnyT_take (i := 4) (v := ?_) rfl (by kernel_rfl) (by kernel_rfl) (by kernel_rfl) (by kernel_rfl) (by exact fun _ _ _ h => h) (Or.inl ⟨by kernel_rfl, ?_⟩) hS0 ?_; rotate_left 1; focus (intro w hSw; unfold KvS at hSw; (try dsimp only at hSw); go_simp; try with_reducible rfl); (try simp only [List.getElem_toArray, List.getElem_cons_zero, List.getElem_cons_succ, Act.put, List.setIfInBounds_toArray, List.set_cons_zero, List.set_cons_succ])); (refine wpAnyT_take (i := 5) (v := ?_) rfl (by kernel_rfl) (by kernel_rfl) (by kernel_rfl) (by kernel_rfl) (by exact fun _ _ _ h => h) (Or.inl ⟨by kernel_rfl, ?_⟩) hS0 ?_; rotate_left 1; focus (intro w hSw; unfold KvS at hSw; (try dsimp only at hSw); go_simp; try with_reducible rfl); (try simp only [List.getElem_toArray, List.getElem_cons_zero, List.getElem_cons_succ, Act.put, List.setIfInBounds_toArray, List.set_cons_zero, List.set_cons_succ])))
    refine wpAnyT_one (i := 6) (by kernel_rfl) rfl (fun K hK => ?_)
    go_simp
    refine (wdoc_calls (h5.out.later (Below.refl _ _).drew) 6 n s fn fv fa fc _ (hf rfl) (h.out.rdF (h5.out.later (Below.refl _ _).drew) hF) (by simp [PVal.key] at hl; rw [List.length_append]; simp only [List.length_singleton]; omega)).mono ?_
    rintro e w6 ⟨v6, rfl, h6, k6⟩
    have hk7 := hid ((hk5.out.later (Below.refl _ _).drew).trans k6)
    replace h6 := hid h6
    have q5 := (k6.block _ (lt_of_block r5.out) hgg1.out o1.out).trans r5.out
    have q6 := (k6.block _ (lt_of_block r6.out) hgg2.out o2.out).trans r6.out
    clear k6
    (refine hK.out _ _ (fun _ => ⟨box_at q5 rfl, box_at q5 rfl, box_at q5 rfl, box_at q5 rfl, box_at q5 rfl, box_at q6 rfl⟩) (fun _ => ?_); clear hK K; (try simp only [Act.put, List.setIfInBounds_toArray, List.set_cons_zero, List.set_cons_succ]))
    refine wpAnyT_done (by kernel_rfl) ?_ _
    go_wp2_with fail
    go_returns
    have hbk : b = 60 := by rw [hb.out]; rfl
    exact ⟨rfl, _, by simpa [PVal.key, hbk] using h6.out, hk7.out⟩
end Go.Proofs.YtihcegakghmdfaaDoor

namespace Go.Proofs.YtihcegakghmdfaaDoor
open Go.RowKit Go.Proofs

theorem wval (g : Nat) (W0 : World) (V : PVal) : V.all formedB = true → WVal g W0 V := by
  induction V using PVal.ind with
  | h k n s l fn fv hl hf =>
    intro hV w lo v cs hw hr hlen
    have hA : (k = 5 → ∀ x ∈ l, x.all formedB = true) ∧ (k = 6 → ∀ x ∈ fv, x.all formedB = true) := by
      constructor
      · intro h5; subst h5
        simp only [PVal.all, allL_eq, Bool.and_eq_true, if_true, List.all_eq_true] at hV
        exact hV.2
      · intro h6; subst h6
        simp only [PVal.all, allL_eq, Bool.and_eq_true, List.all_eq_true, show ¬ (6 : Int) = 5 by omega, if_false, if_true] at hV
        exact hV.2
    have hform : formedB (.mk k n s l fn fv) = true := by simp only [PVal.all, Bool.and_eq_true] at hV; exact hV.1
    have hk : 1 ≤ k ∧ k ≤ 6 := by simp only [formedB, Bool.and_eq_true, decide_eq_true_eq] at hform; exact hform.1.1.1.1.1.1
    have hs : s.size ≤ 17592186044416 := by
      by_cases k4 : k = 4
      · subst k4
        have h1 := (esc_len s.data.toList).1
        simp only [PVal.key, show (4 : Int) ≠ 2 by omega, show (4 : Int) ≠ 3 by omega, if_false, if_true, List.length_cons] at hlen
        have h2 : s.data.toList.length = s.size := by simp
        omega
      · have := (formed_has hform).2.1 k4
        rw [this]
        decide
    exact wvalue_walk k n s l fn fv hk hs (fun h x hx => hl x hx (hA.1 h x hx)) (fun h x hx => hf x hx (hA.2 h x hx)) w lo v cs hw hr hlen

theorem ownsRow_base {w : World} {B B' e n : Nat} {v : Value} {xs : List Value} (h : w.ownsRow B e 1 v n xs) (hB : B' ≤ B) : w.ownsRow B' e 1 v n xs := by
  refine ⟨h.1, ?_⟩
  rcases h.2 with h0 | ⟨g, cap, cur, hv, hb, hr⟩
  · exact .inl h0
  · exact .inr ⟨g, cap, cur, hv, Nat.le_trans hB hb, hr⟩
theorem BytesAt.cells_at {w : World} {S : Nat → Prop} {l : List UInt8} {ad : Addr} {n c : Nat} (h : BytesAt w S l (.slice (some ad) n c)) : ∀ j u, (bcells l)[j]? = some u → w.cell? (ad.add j) = some u := by
  intro j u hu
  obtain ⟨a', c', e, _, _, h9⟩ := h
  injection e with e1
  rcases h9 with h0 | ⟨b, off, h4, h5, h6⟩
  · subst h0; simp [bcells] at hu
  · rw [← e1] at h4
    injection h4 with h4
    subst h4
    simp only [bcells, List.getElem?_map, Option.map_eq_some_iff] at hu
    obtain ⟨x, hx, rfl⟩ := hu
    have := h6 j x hx
    rwa [addr_at]
/-- Bytes of the call's own, that may be written. -/
def OwnB (w w' : World) (l : List UInt8) (v : Value) : Prop := Below w.heap.size w w' ∧ w'.ownsRow w.heap.size 5 1 v l.length (bcells l)

set_option maxRecDepth 100000 in
theorem kclip_calls {w : World} {l : List UInt8} {a : Option Addr} {c : Nat} (hb : BytesAt w (Now w) l (.slice a l.length c)) (hno : a = none → c = 0) (hlim : l.length ≤ 140737488355328) :
    Calls Tryd.prog 86 #[.slice a l.length c] w fun e w' => ∃ v', e = .returned v' ∧ OwnB w w' l v' := by
  obtain ⟨i0, hi, hz0, hz1, hz2⟩ := info_parts info_u8
  have hs0 := hid hb
  have hl0 : Hid (a = none → l.length = 0) := fun h => by
    subst h
    obtain ⟨a', c', e, _, _, h9⟩ := hb
    injection e with e1
    rcases h9 with h0 | ⟨b, off, h4, _⟩
    · subst h0; rfl
    · rw [← e1] at h4; cases h4
  replace hno := hid hno
  clear hb
  go_enter Tryd.func86, Tryd.ntmps86
  go_wp2_with (first
    | (at_make; refine wpList_make_own _ rfl _ _ 26 rfl w.heap.size 5 i0 _ 1 Tryd.underlying26 hi hz0 hz1 .i64 .i64 _ l.length rfl rfl rfl (by rw [hz2]; omega) (by unfold maxLen; omega) (Nat.le_refl _) ?_; intro w4 hown4 hg4; have hs4 := hid (hs0.out.later (grown_below hg4)); have hB4 := hid (grown_below hg4); replace hown4 := hid hown4; clear hg4)
    | (at_builtin; (refine wpList_append_own_any _ rfl _ _ 26 rfl w.heap.size 5 i0 (.int .u8 0) 1 1 Tryd.underlying26 hi hz0 hz1 hz2 rfl (by decide) _ 0 [] rfl hown4.out a l.length c (bcells l) rfl (by rw [bcells_length, Nat.mul_one]) (fun h => ⟨hl0.out h, hno.out h⟩) (fun ad had => by subst had; exact hs4.out.cells_at) (bcells_one l) (by unfold maxLen; omega) (by omega) hB4.out.size ?_); intro v2 w2 hown2 hg2))
  go_ret
  refine ⟨_, rfl, hB4.out.grown hg2 hB4.out.size (fun k hk => (hown4.out.lt k hk).1), ?_⟩
  simpa using hown2

theorem good_mass (V : PVal) (hm : V.mass ≤ 1000000000000) (w : World) (cs : List Value) (hT : Tabs w) (hV : Rd w (Now w) V cs) :
    Calls Tryd.prog 36 #[.agg cs.toArray] w fun e w' => e = .returned (.int .i64 V.good) ∧ Below w.heap.size w w' :=
  good_big V w cs (by have := nodes_mass V; omega) (by have := size_mass hV.fits; omega) hT hV

theorem Wt.bytes {g : Nat} {W0 w : World} {l : List UInt8} {v : Value} (h : Wt g W0 w l v) : BytesAt w (Now w) l v := h.buf.bytes
theorem buf_nil0 {B : Nat} {e : TypeId} {W0 w : World} {l : List UInt8} {n c : Nat} (h : Buf B e W0 w l (.slice none n c)) : c = 0 := by
  rcases h.1.2 with ⟨hv, _⟩ | ⟨g, cap, cur, fz, hv, _⟩
  · injection hv
  · injection hv with e; cases e
/-- What Join tells: the joint key, in new memory; or the first error. -/
def Joined (xs : List PVal) (w : World) (e : Ending) (w' : World) : Prop :=
  ∃ v, e = .returned (.tuple #[v, .int .i64 (badI xs)]) ∧ OwnB w w' (if badI xs = 0 then keysP xs else []) v

set_option maxRecDepth 100000 in
set_option maxHeartbeats 4000000 in
theorem join_calls (xs : List PVal) (hm : ∀ x ∈ xs, x.mass ≤ 1000000000000) (hk : (keysP xs).length ≤ 17592186044416) {w : World} {la : Option Addr} {lc : Nat} (hT : Tabs w) (hL : RdL w (Now w) xs (.slice la xs.length lc)) :
    Calls Tryd.prog 45 #[.slice la xs.length lc] w (Joined xs w) := by
  have hll : xs.length ≤ 1759218604441 := by
    obtain ⟨_, _, _, hv, _, h, _⟩ := hL
    exact h.2
  have hT := hid (fun w' hb => Tabs.stays w w' hT hb)
  have hL0 := hid hL
  have hm' := hid hm
  have hkl : Hid (∀ j x, xs[j]? = some x → (keysP (xs.take j)).length + x.key.length ≤ 17592186044416) := fun j x hx => by
    have h1 := keysP_take_le xs (j + 1)
    rw [keysP_succ hx, List.length_append] at h1
    omega
  have hcl := hid (fun (w : World) (l : List UInt8) (a : Option Addr) (c : Nat) hb hno hlim => kclip_calls (w := w) (l := l) (a := a) (c := c) hb hno hlim)
  clear hL hm
  obtain ⟨W1, hW1⟩ : ∃ W1, W1 = w.alloc (.cells #[.slice none 0 0] 115) := ⟨_, rfl⟩
  have hB1 : Hid (Below w.heap.size w W1) := by show Below _ _ _; rw [hW1]; exact below_new _ _
  have hw1 : Hid (Wt w.heap.size w W1 [] (.slice none 0 0)) := by
    refine ⟨by rw [hW1]; exact heap_alloc_new w _, ?_, by simp [Value.ownBlock]⟩
    exact Buf.nil (by rw [hW1]; exact below_new _ _) (by rw [hW1]; simp)
  have hwv := hid (fun (V : PVal) (h : V.good = 0) => wval w.heap.size w V (good_form h).1)
  unfold WVal at hwv
  unfold Joined OwnB
  obtain ⟨J, hJ⟩ : ∃ J, badI xs = J := ⟨_, rfl⟩
  obtain ⟨L, hLL⟩ : ∃ L, (if J = 0 then keysP xs else []) = L := ⟨_, rfl⟩
  rw [hJ, hLL]
  replace hJ := hid hJ
  replace hLL := hid hLL
  go_enter Tryd.func45, Tryd.ntmps45
  go_wp2_with fail
  rw [← hW1]
  clear hW1
  go_loopg [12] xs.length (fun gh s12 wr => ∃ (j : Nat) (v : Value), gh + j = xs.length ∧ s12 = .int .i64 j ∧ (∀ y ∈ xs.take j, y.good = 0) ∧ Wt w.heap.size w wr (keysP (xs.take j)) v)
  case atStart => exact ⟨0, _, by omega, rfl, by simp, by simpa [keysP] using hw1.out⟩
  case round =>
    obtain ⟨j, v, hj, rfl, hgd, hw⟩ := hrel
    replace hgd := hid hgd
    have hD := hid hw.buf.below
    have hsz := hid hw.buf.2.2
    have hLr := hL0.out.keep (S' := fun b => b < w.heap.size) (fun b h => h) (fun b h => hD.out.block b h)
    by_cases hlt : j < xs.length
    · obtain ⟨x, hx⟩ : ∃ x, xs[j]? = some x := ⟨_, List.getElem?_eq_getElem hlt⟩
      obtain ⟨b, off, cs, rfl, hbg, hc, hr⟩ := hLr.at_ hx
      have hmx := hid (hm'.out x (List.mem_of_getElem? hx))
      have hkx := hid (hkl.out j x hx)
      have hsx := hid (keysP_succ hx)
      have hbad := hid (badI_at hx hgd.out)
      have htk := hid (take_succ_of hx)
      have hgx := hid (fun w cs hT h => good_mass x hmx.out w cs hT h)
      have hwx := hid (hwv.out x)
      obtain ⟨G, hGx⟩ : ∃ G, x.good = G := ⟨_, rfl⟩
      rw [hGx] at hgx hwx hbad
      replace hGx := hid hGx
      obtain ⟨xk, xn, xt, xl, xfn, xfv⟩ := x
      obtain ⟨xa, xc, za, zc, rfl, _⟩ := hr.inv
      have c0 := hc 0 _ rfl
      have c1 := hc 1 _ rfl
      have c2 := hc 2 _ rfl
      have c3 := hc 3 _ rfl
      have c4 := hc 4 _ rfl
      rw [Nat.add_zero] at c0
      replace hw := hid hw
      replace hr := hid hr
      clear hc hLr
      go_upto_region 5 with fail
      obtain ⟨w5, hw5⟩ : ∃ w5, w5 = wr.alloc (.cells #[.int .i64 xk, .int .i64 xn, .string xt, .slice xa xl.length xc, .slice za xfv.length zc] 25) := ⟨_, rfl⟩
      have hn5 : Hid (Below wr.heap.size wr w5) := by show Below _ _ _; rw [hw5]; exact below_new _ _
      have r5 : Hid (w5.heap[wr.heap.size]? = some (.cells #[.int .i64 xk, .int .i64 xn, .string xt, .slice xa xl.length xc, .slice za xfv.length zc] 25 (0, 0))) := by show _ = _; rw [hw5]; exact heap_alloc_new _ _
      rw [← hw5]
      clear hw5 c0 c1 c2 c3 c4
      have a0 := box_at (j := 0) r5.out rfl
      have a1 := box_at (j := 1) r5.out rfl
      have a2 := box_at (j := 2) r5.out rfl
      have a3 := box_at (j := 3) r5.out rfl
      have a4 := box_at (j := 4) r5.out rfl
      go_wp2_with fail
      refine (hgx.out _ _ (hT.out _ (hD.out.trans (hn5.out.mono hsz.out))) (hr.out.keep (S' := Now w5) (fun b h => Nat.lt_of_lt_of_le (Nat.lt_of_lt_of_le h hsz.out) hn5.out.size) (fun b h => hn5.out.block b (Nat.lt_of_lt_of_le h hsz.out)))).mono ?_
      rintro e w6 ⟨rfl, h6⟩
      have hn6 := hid (hn5.out.step h6)
      have r6 := hid ((h6.block _ (lt_of_block r5.out)).trans r5.out)
      have hw6 := hid (hw.out.later hn6.out)
      have hr6 := hid (hw.out.rd hw6.out hr.out)
      clear h6 a0 a1 a2 a3 a4 r5
      by_cases hG : G = 0
      · subst hG
        have a0 := box_at (j := 0) r6.out rfl
        have a1 := box_at (j := 1) r6.out rfl
        have a2 := box_at (j := 2) r6.out rfl
        have a3 := box_at (j := 3) r6.out rfl
        have a4 := box_at (j := 4) r6.out rfl
        go_wp2_with fail
        refine (hwx.out (by first | rfl | trivial) _ _ _ _ hw6.out hr6.out hkx.out).mono ?_
        rintro e w7 ⟨v7, rfl, h7, _⟩
        replace h7 := hid h7
        clear a0 a1 a2 a3 a4
        go_wp2_with fail
        go_roundg (xs.length - (j + 1))
        case measure => omega
        case rel => exact ⟨j + 1, v7, by omega, by go_num, by
          rw [htk.out]; intro y hy
          rcases List.mem_append.1 hy with h | h
          · exact hgd.out y h
          · rw [List.mem_singleton.1 h]; exact hGx.out, by rw [hsx.out]; exact h7.out⟩
      · have hGb : (G != 0) = true := by simp [hG]
        have hJG : J = G := hJ.out.symm.trans (hbad.out hG)
        have hL0 : L = [] := by rw [← hLL.out, hJG, if_neg hG]
        subst hJG hL0
        clear hbad hLL hJ
        go_wp2_with fail
        go_returns
        exact ⟨_, rfl, hD.out.trans (hn6.out.mono hsz.out), by simpa [bcells] using World.ownsRow_nil _ _ _ _⟩
    · have hj2 : xs.take j = xs := List.take_of_length_le (by omega)
      rw [hj2] at hw
      have hb0 : Hid (badI xs = 0) := badI_zero.2 (by rw [← hj2]; exact hgd.out)
      obtain ⟨va, vc, rfl, _⟩ := hw.buf.any
      have hno : Hid (va = none → vc = 0) := fun h => by subst h; exact buf_nil0 hw.buf
      have c0 := box_at (j := 0) hw.row rfl
      replace hw := hid hw
      have hJG : J = 0 := hJ.out.symm.trans hb0.out
      have hL0 : L = keysP xs := by rw [← hLL.out, hJG, if_pos rfl]
      subst hJG hL0
      clear hLL hJ
      go_wp2_with fail
      refine (hcl.out _ _ _ _ hw.out.bytes hno.out (by omega)).mono ?_
      rintro e w7 ⟨v7, rfl, h7, h8⟩
      replace h7 := hid h7
      replace h8 := hid h8
      go_wp2_with fail
      go_returns
      exact ⟨_, rfl, hD.out.trans (h7.out.mono hsz.out), ownsRow_base h8.out hsz.out⟩

theorem badI_one (V : PVal) : badI [V] = V.good := by
  unfold badI
  by_cases h : V.good = 0
  · rw [if_pos h, h]; rfl
  · rw [if_neg h]
theorem keysP_one (V : PVal) : keysP [V] = V.key := by simp [keysP]
theorem OwnB.base {w w1 w' : World} {l : List UInt8} {v : Value} (h : OwnB w1 w' l v) (hb : Below w.heap.size w w1) : OwnB w w' l v := ⟨hb.step h.1, ownsRow_base h.2 hb.size⟩
/-- What Of tells. -/
def Oft (V : PVal) (w : World) (e : Ending) (w' : World) : Prop :=
  ∃ v, e = .returned (.tuple #[v, .int .i64 V.good]) ∧ OwnB w w' (if V.good = 0 then V.key else []) v

set_option maxRecDepth 100000 in
theorem of_calls (V : PVal) (hm : V.mass ≤ 1000000000000) (w : World) (cs : List Value) (hT : Tabs w) (hV : Rd w (Now w) V cs) :
    Calls Tryd.prog 18 #[.agg cs.toArray] w (Oft V w) := by
  have hj := hid (fun (la : Option Addr) (lc : Nat) (w' : World) (hT : Tabs w') (hL : RdL w' (Now w') [V] (.slice la 1 lc)) => join_calls [V] (by simp [hm]) (by rw [keysP_one]; have := key_le V; omega) hT hL)
  unfold Joined at hj
  rw [badI_one, keysP_one] at hj
  have hT := hid (fun w' hb => Tabs.stays w w' hT hb)
  have hV0 := hid hV
  unfold Oft
  generalize (if V.good = 0 then V.key else []) = L at *
  generalize V.good = G at *
  obtain ⟨k, n, s, l, fn, fv⟩ := V
  obtain ⟨la, lc, fa, fc, rfl, _⟩ := hV.inv
  clear hV
  have D := hid ((below_new w (.cells #[.int .i64 k, .int .i64 n, .string s, .slice la l.length lc, .slice fa fv.length fc] 25)).step (below_new _ (.cells #[.int .i64 k, .int .i64 n, .string s, .slice la l.length lc, .slice fa fv.length fc] 25)))
  go_enter Tryd.func18, Tryd.ntmps18
  go_wp2_with fail
  refine (hj.out (some ⟨w.heap.size + 1, 0, none⟩) 1 _ (hT.out _ D.out) (rdL_block (css := [[.int .i64 k, .int .i64 n, .string s, .slice la l.length lc, .slice fa fv.length fc]]) rfl rfl rfl (one_rd (hV0.out.later D.out)) (blk_new (by simp)) (by simp))).mono ?_
  rintro e w2 ⟨v, rfl, h2⟩
  replace h2 := hid (h2.base D.out)
  go_wp2_with fail
  go_returns
  exact ⟨_, rfl, h2.out⟩
end Go.Proofs.YtihcegakghmdfaaDoor
