/-
  Walk: the reference's take.
-/
import Derived.Test.YtihcegakghmdfaaDoorMgDecP
import Derived.Test.YtihcegakghmdfaaDoorMgHel
namespace Go.Proofs.YtihcegakghmdfaaDoor
open Go.RowKit Go.Proofs

/-- What the reference's take tells. -/
def RTk (R : Got PVal) (p : Nat) (w : World) (e : Ending) (w' : World) : Prop := Below w.heap.size w w' ∧ match R with
  | .bad c => e = .returned (.tuple #[.agg none5, .int .i64 0, .int .i64 c])
  | .ok V n => ∃ cs, e = .returned (.tuple #[.agg cs.toArray, .int .i64 ((p + n : Nat) : Int), .int .i64 0]) ∧ Rd w' (From w.heap.size w') V cs

/-- The three boxes: what is told, none, the value so far. -/
structure VT (w0 : World) (cs : Array Value) (w : World) : Prop where
  r6 : w.heap[w0.heap.size]? = some (.cells #[.int .i64 0, .int .i64 0, .string ByteArray.empty, .slice none 0 0, .slice none 0 0] 25 (0, 0))
  r9 : w.heap[w0.heap.size + 1]? = some (.cells #[.int .i64 0, .int .i64 0, .string ByteArray.empty, .slice none 0 0, .slice none 0 0] 25 (0, 0))
  r10 : w.heap[w0.heap.size + 1 + 1]? = some (.cells cs 25 (0, 0))
  below : Below w0.heap.size w0 w
section
variable {w0 w w' : World} {cs : Array Value}
theorem VT.later (h : VT w0 cs w) (hb : Below w.heap.size w w') : VT w0 cs w' :=
  ⟨(hb.block _ (lt_of_block h.r6)).trans h.r6, (hb.block _ (lt_of_block h.r9)).trans h.r9, (hb.block _ (lt_of_block h.r10)).trans h.r10, h.below.trans (hb.mono h.below.size)⟩
theorem VT.set (h : VT w0 cs w) (j : Nat) (u : Value) : VT w0 (cs.setIfInBounds j u) (w.setCell ⟨w0.heap.size + 1 + 1, j, none⟩ u) :=
  ⟨(Below.heap_setCell _ _ _ _ (by simp; omega)).trans h.r6, (Below.heap_setCell _ _ _ _ (by simp)).trans h.r9, row_setCell h.r10, h.below.setCell (p := ⟨w0.heap.size + 1 + 1, j, none⟩) (by simp; omega) u⟩
theorem VT.zero (h : VT w0 cs w) : (((((w.setCell ⟨w0.heap.size, 0, none⟩ (.int .i64 0)).setCell ⟨w0.heap.size, 1, none⟩ (.int .i64 0)).setCell ⟨w0.heap.size, 2, none⟩ (.string ByteArray.empty)).setCell ⟨w0.heap.size, 3, none⟩ (.slice none 0 0)).setCell ⟨w0.heap.size, 4, none⟩ (.slice none 0 0)).heap[w0.heap.size]? = some (.cells #[.int .i64 0, .int .i64 0, .string ByteArray.empty, .slice none 0 0, .slice none 0 0] 25 (0, 0)) ∧
    Below w0.heap.size w0 (((((w.setCell ⟨w0.heap.size, 0, none⟩ (.int .i64 0)).setCell ⟨w0.heap.size, 1, none⟩ (.int .i64 0)).setCell ⟨w0.heap.size, 2, none⟩ (.string ByteArray.empty)).setCell ⟨w0.heap.size, 3, none⟩ (.slice none 0 0)).setCell ⟨w0.heap.size, 4, none⟩ (.slice none 0 0)) :=
  ⟨set5_box h.r6, set5_below h.below (Nat.le_refl _) _ _ _ _ _⟩
theorem rt_bad {a : Act} {w9 : World} {p : Nat} {R : Got PVal} {c : Int} (hd : a.defers = []) (h6 : a.tmps[6]?.getD undef = .pointer (some ⟨w0.heap.size, 0, none⟩)) (h7 : a.tmps[7]?.getD undef = .int .i64 0) (h8 : a.tmps[8]?.getD undef = .int .i64 c)
    (hrow : w9.heap[w0.heap.size]? = some (.cells #[.int .i64 0, .int .i64 0, .string ByteArray.empty, .slice none 0 0, .slice none 0 0] 25 (0, 0))) (hR : R = .bad c) (hb : Below w0.heap.size w0 w9) : bodyPost Tryd.prog Tryd.f75 (RTk R p w0) Exit.ret a w9 := by
  subst hR
  have z0 := box_at (j := 0) hrow rfl
  have z1 := box_at (j := 1) hrow rfl
  have z2 := box_at (j := 2) hrow rfl
  have z3 := box_at (j := 3) hrow rfl
  have z4 := box_at (j := 4) hrow rfl
  refine ⟨hd, _, ?_, hb, rfl⟩
  simp [results, Tryd.results75, go_sem, h6, h7, h8, z0, z1, z2, z3, z4]
  rfl
theorem rt_ok {a : Act} {w9 : World} {p n : Nat} {R : Got PVal} {V : PVal} {v0 v1 v2 v3 v4 : Value} (hd : a.defers = []) (h6 : a.tmps[6]?.getD undef = .pointer (some ⟨w0.heap.size, 0, none⟩)) (h7 : a.tmps[7]?.getD undef = .int .i64 ((p + n : Nat) : Int)) (h8 : a.tmps[8]?.getD undef = .int .i64 0)
    (hrow : w9.heap[w0.heap.size]? = some (.cells #[v0, v1, v2, v3, v4] 25 (0, 0))) (hR : R = .ok V n) (hb : Below w0.heap.size w0 w9) (hV : Rd w9 (From w0.heap.size w9) V [v0, v1, v2, v3, v4]) : bodyPost Tryd.prog Tryd.f75 (RTk R p w0) Exit.ret a w9 := by
  subst hR
  have z0 := box_at (j := 0) hrow rfl
  have z1 := box_at (j := 1) hrow rfl
  have z2 := box_at (j := 2) hrow rfl
  have z3 := box_at (j := 3) hrow rfl
  have z4 := box_at (j := 4) hrow rfl
  refine ⟨hd, _, ?_, hb, _, rfl, hV⟩
  simp [results, Tryd.results75, go_sem, h6, h7, h8, z0, z1, z2, z3, z4]
end

set_option maxRecDepth 100000 in
set_option maxHeartbeats 1000000 in
/-- A value's head: all but Lists and Docs that may be. -/
theorem rtake_head (q : Option (List UInt8 → Got PVal)) (d : Nat) (hq : (q = none ∧ d = 8) ∨ (d < 8 ∧ ∃ f, q = some f)) {w : World} {bv : Value} {l : List UInt8} (hb : BytesAt w (Now w) l bv) (hl : l.length ≤ 35184372088832) (p : Nat) (hp : p ≤ l.length)
    (hk : ∀ k r, l.drop p = k :: r → ¬ (k.toNat = 5 ∨ k.toNat = 6) ∨ d = 8) :
    Calls Tryd.prog 75 #[bv, .int .i64 p, .int .i64 d] w (RTk (headR q (l.drop p)) p w) := by
  obtain ⟨R, hR⟩ : ∃ R, R = headR q (l.drop p) := ⟨_, rfl⟩
  rw [← hR]
  have hb0 := hid hb
  obtain ⟨a, cap, rfl, hc1, hc2, hcell⟩ := hb
  replace hcell := hid hcell
  by_cases hend : p = l.length
  · have hRR : Hid (R = .bad 17) := by
      show _ = _
      rw [hR, List.drop_eq_nil_of_le (by omega)]; rfl
    subst hend
    go_enter Tryd.func75, Tryd.ntmps75
    go_wp2_with fail
    exact rt_bad rfl rfl rfl rfl (al_old (al_at rfl)) hRR.out ((below_new _ _).step (below_new _ _))
  have hlt : p < l.length := by omega
  obtain ⟨k, hkk⟩ : ∃ d, l[p]? = some d := ⟨_, List.getElem?_eq_getElem hlt⟩
  have hdr : l.drop p = k :: l.drop (p + 1) := by rw [List.drop_eq_getElem_cons hlt, (List.getElem?_eq_some_iff.1 hkk).2]
  have hk8 := k.toNat_lt
  obtain ⟨b, off, rfl, hbS, hcd⟩ : ∃ b off, a = some ⟨b, off, none⟩ ∧ b < w.heap.size ∧ ∀ (j : Nat) (c : UInt8), l[j]? = some c → w.cell? ⟨b, off + j, none⟩ = some (.int .u8 c.toNat) := by
    rcases hcell.out with hn | ⟨b, off, h1, h2, h3⟩
    · subst hn; simp at hlt
    · exact ⟨b, off, h1, h2, h3⟩
  have hd0 := hcd p k hkk
  have hby := hid (fun (j : Nat) (c : UInt8) (hj : l[j]? = some c) (w' : World) (h : Below w.heap.size w w') => (h.cell (p := ⟨b, off + j, none⟩) hbS).trans (hcd j c hj))
  have e1 : IntKind.i64.wrap ((p : Int) + 1) = ((p + 1 : Nat) : Int) := by rw [IntWalk.i64_in _ (by omega)]; omega
  have hkn := hk k (l.drop (p + 1)) hdr
  rw [hdr] at hR
  obtain ⟨c, hc⟩ : ∃ c, c = k.toNat := ⟨_, rfl⟩
  rw [← hc] at hd0 hk8 hkn
  replace hR := hid hR
  have hkc := hid hc.symm
  clear hc hcd hkk hdr hcell hk
  obtain ⟨W3, hW3⟩ : ∃ W3, W3 = ((w.alloc (.cells #[.int .i64 0, .int .i64 0, .string ⟨#[]⟩, .slice none 0 0, .slice none 0 0] 25)).alloc (.cells #[.int .i64 0, .int .i64 0, .string ⟨#[]⟩, .slice none 0 0, .slice none 0 0] 25)).alloc (.cells #[.int .i64 (c : Int), .int .i64 0, .string ⟨#[]⟩, .slice none 0 0, .slice none 0 0] 25) := ⟨_, rfl⟩
  have hv : Hid (VT w #[.int .i64 (c : Int), .int .i64 0, .string ⟨#[]⟩, .slice none 0 0, .slice none 0 0] W3) := by
    rw [hW3]
    exact ⟨al_old (al_old (al_at rfl)), al_old (al_at (by simp)), al_at (by simp), ((below_new _ _).step (below_new _ _)).step (below_new _ _)⟩
  have e0 : IntKind.i64.wrap (c : Int) = c := IntWalk.i64_in _ (by omega)
  go_enter Tryd.func75, Tryd.ntmps75
  go_upto_region 5 with fail
  rw [← hW3]
  clear hW3
  have c60 := box_at (j := 0) hv.out.r6 rfl
  have c61 := box_at (j := 1) hv.out.r6 rfl
  have c62 := box_at (j := 2) hv.out.r6 rfl
  have c63 := box_at (j := 3) hv.out.r6 rfl
  have c64 := box_at (j := 4) hv.out.r6 rfl
  have c90 := box_at (j := 0) hv.out.r9 rfl
  have c91 := box_at (j := 1) hv.out.r9 rfl
  have c92 := box_at (j := 2) hv.out.r9 rfl
  have c93 := box_at (j := 3) hv.out.r9 rfl
  have c94 := box_at (j := 4) hv.out.r9 rfl
  have cA0 := box_at (j := 0) hv.out.r10 rfl
  have cA1 := box_at (j := 1) hv.out.r10 rfl
  have cA2 := box_at (j := 2) hv.out.r10 rfl
  have cA3 := box_at (j := 3) hv.out.r10 rfl
  have cA4 := box_at (j := 4) hv.out.r10 rfl
  have f6 := box_free hv.out.r6
  have fA := box_free hv.out.r10
  by_cases k0 : c < 1
  · have hRR : Hid (R = .bad 4) := hR.out.trans (head_0 (by rw [hkc.out]; omega))
    have k0' : (c : Int) < 1 := by omega
    go_wp2_with fail
    obtain ⟨rz, hz⟩ := hv.out.zero
    generalize (((((W3.setCell ⟨w.heap.size, 0, none⟩ (.int .i64 0)).setCell ⟨w.heap.size, 1, none⟩ (.int .i64 0)).setCell ⟨w.heap.size, 2, none⟩ (.string ByteArray.empty)).setCell ⟨w.heap.size, 3, none⟩ (.slice none 0 0)).setCell ⟨w.heap.size, 4, none⟩ (.slice none 0 0)) = w9 at *
    exact rt_bad rfl rfl rfl rfl rz hRR.out hz
  by_cases k7 : 6 < c
  · have hRR : Hid (R = .bad 4) := hR.out.trans (head_0 (by rw [hkc.out]; omega))
    have k7' : 6 < (c : Int) := by omega
    have k0' : ¬ (c : Int) < 1 := by omega
    go_wp2_with fail
    obtain ⟨rz, hz⟩ := hv.out.zero
    generalize (((((W3.setCell ⟨w.heap.size, 0, none⟩ (.int .i64 0)).setCell ⟨w.heap.size, 1, none⟩ (.int .i64 0)).setCell ⟨w.heap.size, 2, none⟩ (.string ByteArray.empty)).setCell ⟨w.heap.size, 3, none⟩ (.slice none 0 0)).setCell ⟨w.heap.size, 4, none⟩ (.slice none 0 0)) = w9 at *
    exact rt_bad rfl rfl rfl rfl rz hRR.out hz
  have k0' : ¬ (c : Int) < 1 := by omega
  have k7' : ¬ 6 < (c : Int) := by omega
  by_cases k5 : 5 ≤ c
  · have hd8 : d = 8 := by
      rcases hkn with h | h
      · exfalso; omega
      · exact h
    subst hd8
    obtain rfl : q = none := by rcases hq with h | h; exact h.1; omega
    have hRR : Hid (R = .bad 3) := by
      show _ = _
      rw [hR.out]
      rcases (by omega : c = 5 ∨ c = 6) with h | h
      · exact head_5 (by rw [hkc.out]; exact h)
      · exact head_6 (by rw [hkc.out]; exact h)
    have k5' : 5 ≤ (c : Int) := by omega
    go_wp2_with fail
    obtain ⟨rz, hz⟩ := hv.out.zero
    generalize (((((W3.setCell ⟨w.heap.size, 0, none⟩ (.int .i64 0)).setCell ⟨w.heap.size, 1, none⟩ (.int .i64 0)).setCell ⟨w.heap.size, 2, none⟩ (.string ByteArray.empty)).setCell ⟨w.heap.size, 3, none⟩ (.slice none 0 0)).setCell ⟨w.heap.size, 4, none⟩ (.slice none 0 0)) = w9 at *
    exact rt_bad rfl rfl rfl rfl rz hRR.out hz
  have k5' : ¬ 5 ≤ (c : Int) := by omega
  by_cases k1 : c = 1
  · subst k1
    have hRR : Hid (R = .ok _ 1) := hR.out.trans (head_1 hkc.out)
    go_wp2_with fail
    exact rt_ok (n := 1) rfl rfl rfl rfl (set5_box hv.out.r6) hRR.out (set5_below hv.out.below (Nat.le_refl _) _ _ _ _ _) (rd_atom ⟨by decide, by decide⟩ ⟨by decide, by decide⟩ (by decide))
  by_cases k2 : c = 2
  · subst k2
    have hRR := hR.out.trans (head_2 hkc.out)
    by_cases hend2 : p + 1 = l.length
    · rw [List.drop_eq_nil_of_le (by omega)] at hRR
      replace hRR := hid hRR
      have q1 : (l.length : Int) ≤ (p : Int) + 1 := by omega
      go_wp2_with fail
      obtain ⟨rz, hz⟩ := hv.out.zero
      generalize (((((W3.setCell ⟨w.heap.size, 0, none⟩ (.int .i64 0)).setCell ⟨w.heap.size, 1, none⟩ (.int .i64 0)).setCell ⟨w.heap.size, 2, none⟩ (.string ByteArray.empty)).setCell ⟨w.heap.size, 3, none⟩ (.slice none 0 0)).setCell ⟨w.heap.size, 4, none⟩ (.slice none 0 0)) = w9 at *
      exact rt_bad rfl rfl rfl rfl rz hRR.out hz
    have hlt2 : p + 1 < l.length := by omega
    obtain ⟨y, hy⟩ : ∃ d, l[p + 1]? = some d := ⟨_, List.getElem?_eq_getElem hlt2⟩
    rw [show l.drop (p + 1) = y :: l.drop (p + 2) by rw [List.drop_eq_getElem_cons hlt2, (List.getElem?_eq_some_iff.1 hy).2]] at hRR
    simp only at hRR
    have hyc := hby.out _ _ hy _ hv.out.below
    have hy8 := y.toNat_lt
    generalize y.toNat = z at *
    have q1 : ¬ (l.length : Int) ≤ (p : Int) + 1 := by omega
    have q2 : (0 : Int) ≤ (p : Int) + 1 := by omega
    have q3 : (p : Int) + 1 < (l.length : Int) := by omega
    have q4 : ((p : Int) + 1).toNat = p + 1 := by omega
    clear hend2 hlt2 hy
    by_cases hz : 1 < z
    · rw [if_pos hz] at hRR
      replace hRR := hid hRR
      have q5 : 1 < (z : Int) := by omega
      go_wp2_with fail
      obtain ⟨rz, hz⟩ := hv.out.zero
      generalize (((((W3.setCell ⟨w.heap.size, 0, none⟩ (.int .i64 0)).setCell ⟨w.heap.size, 1, none⟩ (.int .i64 0)).setCell ⟨w.heap.size, 2, none⟩ (.string ByteArray.empty)).setCell ⟨w.heap.size, 3, none⟩ (.slice none 0 0)).setCell ⟨w.heap.size, 4, none⟩ (.slice none 0 0)) = w9 at *
      exact rt_bad rfl rfl rfl rfl rz hRR.out hz
    rw [if_neg hz] at hRR
    replace hRR := hid hRR
    have q5 : ¬ 1 < (z : Int) := by omega
    have e2 : IntKind.i64.wrap (z : Int) = z := IntWalk.i64_in _ (by omega)
    have e3 : IntKind.i64.wrap ((p : Int) + 1 + 1) = (p : Int) + 1 + 1 := IntWalk.i64_in _ (by omega)
    go_upto_region 19 with fail
    have hv4 := hid (hv.out.set 1 (.int .i64 (z : Int)))
    clear c60 c61 c62 c63 c64 c90 c91 c92 c93 c94 cA0 cA1 cA2 cA3 cA4 f6 fA hyc
    generalize W3.setCell ⟨w.heap.size + 1 + 1, 1, none⟩ (.int .i64 (z : Int)) = W4 at *
    replace hv4 : Hid (VT w #[.int .i64 2, .int .i64 (z : Int), .string ⟨#[]⟩, .slice none 0 0, .slice none 0 0] W4) := hv4
    have c60 := box_at (j := 0) hv4.out.r6 rfl
    have c61 := box_at (j := 1) hv4.out.r6 rfl
    have c62 := box_at (j := 2) hv4.out.r6 rfl
    have c63 := box_at (j := 3) hv4.out.r6 rfl
    have c64 := box_at (j := 4) hv4.out.r6 rfl
    have c90 := box_at (j := 0) hv4.out.r9 rfl
    have c91 := box_at (j := 1) hv4.out.r9 rfl
    have c92 := box_at (j := 2) hv4.out.r9 rfl
    have c93 := box_at (j := 3) hv4.out.r9 rfl
    have c94 := box_at (j := 4) hv4.out.r9 rfl
    have cA0 := box_at (j := 0) hv4.out.r10 rfl
    have cA1 := box_at (j := 1) hv4.out.r10 rfl
    have cA2 := box_at (j := 2) hv4.out.r10 rfl
    have cA3 := box_at (j := 3) hv4.out.r10 rfl
    have cA4 := box_at (j := 4) hv4.out.r10 rfl
    have f6 := box_free hv4.out.r6
    have fA := box_free hv4.out.r10
    go_wp2_with fail
    exact rt_ok (n := 2) rfl rfl rfl rfl (set5_box hv4.out.r6) hRR.out (set5_below hv4.out.below (Nat.le_refl _) _ _ _ _ _) (rd_atom ⟨by decide, by decide⟩ ⟨by omega, by omega⟩ (by decide))
  have k1' : ¬ (c : Int) = 1 := by omega
  have k2' : ¬ (c : Int) = 2 := by omega
  have hnum := hid (rnumber_calls (hb0.out.later hv.out.below) (by omega) (p + 1) hlt)
  obtain ⟨N, hN⟩ : ∃ N, N = numR 0 0 (l.drop (p + 1)) := ⟨_, rfl⟩
  by_cases k3 : c = 3
  · subst k3
    have hRR := hR.out.trans (head_3 hkc.out)
    rw [← hN] at hRR hnum
    cases N with
    | bad x =>
      have hx := numR_pos _ _ _ _ hN.symm
      have hx0 : (x != 0) = true := by simp; omega
      have hx1 : ¬ x = 0 := by omega
      simp only at hRR
      replace hRR := hid hRR
      clear hN
      go_wp2_with fail
      refine hnum.out.mono ?_
      rintro e w4 ⟨rfl, rfl⟩
      go_wp2_with fail
      obtain ⟨rz, hz⟩ := hv.out.zero
      generalize (((((W3.setCell ⟨w.heap.size, 0, none⟩ (.int .i64 0)).setCell ⟨w.heap.size, 1, none⟩ (.int .i64 0)).setCell ⟨w.heap.size, 2, none⟩ (.string ByteArray.empty)).setCell ⟨w.heap.size, 3, none⟩ (.slice none 0 0)).setCell ⟨w.heap.size, 4, none⟩ (.slice none 0 0)) = w9 at *
      exact rt_bad rfl rfl rfl rfl rz hRR.out hz
    | ok n j =>
      have hn64 := (num_inv hN.symm).1
      have hnj := (num_inv hN.symm).2.2.2.2
      rw [List.length_drop] at hnj
      simp only at hRR
      clear hN
      obtain ⟨m, hm⟩ : ∃ m, m = n / 2 := ⟨_, rfl⟩
      have hm1 : ((n : Int)).tdiv 2 = (m : Int) := by rw [Int.tdiv_eq_ediv_of_nonneg (by omega), hm]; omega
      have hm2 : (n : Int) / 2 = (m : Int) := by rw [hm]; omega
      have hm3 : IntKind.i64.wrap (m : Int) = m := IntWalk.i64_in _ (by omega)
      have hun : unturn n = if n % 2 = 1 then -(m : Int) - 1 else (m : Int) := by rw [hm]; rfl
      have hmm := hid hm
      clear hm
      by_cases hodd : n % 2 = 1
      · rw [if_pos hodd] at hun
        rw [hun] at hRR
        replace hRR := hid hRR
        have o1 : (n : Int) % 2 = 1 := by omega
        have o2 : ((n : Int)).tmod 2 = 1 := by rw [Int.tmod_eq_emod_of_nonneg (by omega)]; omega
        have o3 : IntKind.i64.wrap (-(m : Int)) = -(m : Int) := IntWalk.i64_in _ (by have := hmm.out; omega)
        have o4 : IntKind.i64.wrap (-(m : Int) - 1) = -(m : Int) - 1 := IntWalk.i64_in _ (by have := hmm.out; omega)
        go_wp2_with fail
        refine hnum.out.mono ?_
        rintro e w4 ⟨rfl, rfl⟩
        go_upto_region 26 with fail
        have hv4 := hid (hv.out.set 1 (.int .i64 (m : Int)))
        clear c60 c61 c62 c63 c64 c90 c91 c92 c93 c94 cA0 cA1 cA2 cA3 cA4 f6 fA
        generalize W3.setCell ⟨w.heap.size + 1 + 1, 1, none⟩ (.int .i64 (m : Int)) = W4 at *
        replace hv4 : Hid (VT w #[.int .i64 3, .int .i64 (m : Int), .string ⟨#[]⟩, .slice none 0 0, .slice none 0 0] W4) := hv4
        have c60 := box_at (j := 0) hv4.out.r6 rfl
        have c61 := box_at (j := 1) hv4.out.r6 rfl
        have c62 := box_at (j := 2) hv4.out.r6 rfl
        have c63 := box_at (j := 3) hv4.out.r6 rfl
        have c64 := box_at (j := 4) hv4.out.r6 rfl
        have c90 := box_at (j := 0) hv4.out.r9 rfl
        have c91 := box_at (j := 1) hv4.out.r9 rfl
        have c92 := box_at (j := 2) hv4.out.r9 rfl
        have c93 := box_at (j := 3) hv4.out.r9 rfl
        have c94 := box_at (j := 4) hv4.out.r9 rfl
        have cA0 := box_at (j := 0) hv4.out.r10 rfl
        have cA1 := box_at (j := 1) hv4.out.r10 rfl
        have cA2 := box_at (j := 2) hv4.out.r10 rfl
        have cA3 := box_at (j := 3) hv4.out.r10 rfl
        have cA4 := box_at (j := 4) hv4.out.r10 rfl
        have f6 := box_free hv4.out.r6
        have fA := box_free hv4.out.r10
        go_upto_region 28 with fail
        have hv5 := hid (hv4.out.set 1 (.int .i64 (-(m : Int) - 1)))
        clear c60 c61 c62 c63 c64 c90 c91 c92 c93 c94 cA0 cA1 cA2 cA3 cA4 f6 fA
        generalize W4.setCell ⟨w.heap.size + 1 + 1, 1, none⟩ (.int .i64 (-(m : Int) - 1)) = W5 at *
        replace hv5 : Hid (VT w #[.int .i64 3, .int .i64 (-(m : Int) - 1), .string ⟨#[]⟩, .slice none 0 0, .slice none 0 0] W5) := hv5
        have c60 := box_at (j := 0) hv5.out.r6 rfl
        have c61 := box_at (j := 1) hv5.out.r6 rfl
        have c62 := box_at (j := 2) hv5.out.r6 rfl
        have c63 := box_at (j := 3) hv5.out.r6 rfl
        have c64 := box_at (j := 4) hv5.out.r6 rfl
        have c90 := box_at (j := 0) hv5.out.r9 rfl
        have c91 := box_at (j := 1) hv5.out.r9 rfl
        have c92 := box_at (j := 2) hv5.out.r9 rfl
        have c93 := box_at (j := 3) hv5.out.r9 rfl
        have c94 := box_at (j := 4) hv5.out.r9 rfl
        have cA0 := box_at (j := 0) hv5.out.r10 rfl
        have cA1 := box_at (j := 1) hv5.out.r10 rfl
        have cA2 := box_at (j := 2) hv5.out.r10 rfl
        have cA3 := box_at (j := 3) hv5.out.r10 rfl
        have cA4 := box_at (j := 4) hv5.out.r10 rfl
        have f6 := box_free hv5.out.r6
        have fA := box_free hv5.out.r10
        go_wp2_with fail
        exact rt_ok (n := 1 + j) rfl rfl (by simp; omega) rfl (set5_box hv5.out.r6) hRR.out (set5_below hv5.out.below (Nat.le_refl _) _ _ _ _ _) (rd_atom ⟨by decide, by decide⟩ ⟨by have := hmm.out; omega, by have := hmm.out; omega⟩ (by decide))
      · rw [if_neg hodd] at hun
        rw [hun] at hRR
        replace hRR := hid hRR
        have o1 : (n : Int) % 2 = 0 := by omega
        have o2 : ((n : Int)).tmod 2 = 0 := by rw [Int.tmod_eq_emod_of_nonneg (by omega)]; omega
        go_wp2_with fail
        refine hnum.out.mono ?_
        rintro e w4 ⟨rfl, rfl⟩
        go_upto_region 26 with fail
        have hv4 := hid (hv.out.set 1 (.int .i64 (m : Int)))
        clear c60 c61 c62 c63 c64 c90 c91 c92 c93 c94 cA0 cA1 cA2 cA3 cA4 f6 fA
        generalize W3.setCell ⟨w.heap.size + 1 + 1, 1, none⟩ (.int .i64 (m : Int)) = W4 at *
        replace hv4 : Hid (VT w #[.int .i64 3, .int .i64 (m : Int), .string ⟨#[]⟩, .slice none 0 0, .slice none 0 0] W4) := hv4
        have c60 := box_at (j := 0) hv4.out.r6 rfl
        have c61 := box_at (j := 1) hv4.out.r6 rfl
        have c62 := box_at (j := 2) hv4.out.r6 rfl
        have c63 := box_at (j := 3) hv4.out.r6 rfl
        have c64 := box_at (j := 4) hv4.out.r6 rfl
        have c90 := box_at (j := 0) hv4.out.r9 rfl
        have c91 := box_at (j := 1) hv4.out.r9 rfl
        have c92 := box_at (j := 2) hv4.out.r9 rfl
        have c93 := box_at (j := 3) hv4.out.r9 rfl
        have c94 := box_at (j := 4) hv4.out.r9 rfl
        have cA0 := box_at (j := 0) hv4.out.r10 rfl
        have cA1 := box_at (j := 1) hv4.out.r10 rfl
        have cA2 := box_at (j := 2) hv4.out.r10 rfl
        have cA3 := box_at (j := 3) hv4.out.r10 rfl
        have cA4 := box_at (j := 4) hv4.out.r10 rfl
        have f6 := box_free hv4.out.r6
        have fA := box_free hv4.out.r10
        go_wp2_with fail
        exact rt_ok (n := 1 + j) rfl rfl (by simp; omega) rfl (set5_box hv4.out.r6) hRR.out (set5_below hv4.out.below (Nat.le_refl _) _ _ _ _ _) (rd_atom ⟨by decide, by decide⟩ ⟨by have := hmm.out; omega, by have := hmm.out; omega⟩ (by decide))
  have k3' : ¬ (c : Int) = 3 := by omega
  obtain rfl : c = 4 := by omega
  have hRR := hR.out.trans (head_4 hkc.out)
  unfold manyR at hRR
  rw [← hN] at hRR hnum
  cases N with
  | bad x =>
    have hx := numR_pos _ _ _ _ hN.symm
    have hx0 : (x != 0) = true := by simp; omega
    have hx1 : ¬ x = 0 := by omega
    simp only at hRR
    replace hRR := hid hRR
    clear hN
    go_wp2_with fail
    refine hnum.out.mono ?_
    rintro e w4 ⟨rfl, rfl⟩
    go_wp2_with fail
    obtain ⟨rz, hz⟩ := hv.out.zero
    generalize (((((W3.setCell ⟨w.heap.size, 0, none⟩ (.int .i64 0)).setCell ⟨w.heap.size, 1, none⟩ (.int .i64 0)).setCell ⟨w.heap.size, 2, none⟩ (.string ByteArray.empty)).setCell ⟨w.heap.size, 3, none⟩ (.slice none 0 0)).setCell ⟨w.heap.size, 4, none⟩ (.slice none 0 0)) = w9 at *
    exact rt_bad rfl rfl rfl rfl rz hRR.out hz
  | ok n j =>
    have hn64 := (num_inv hN.symm).1
    have hnj := (num_inv hN.symm).2.2.2.2
    rw [List.length_drop] at hnj
    simp only at hRR
    clear hN
    by_cases hbig : 2048 < n
    · rw [if_pos hbig] at hRR
      replace hRR := hid hRR
      have q1 : 2048 < (n : Int) := by omega
      go_wp2_with fail
      refine hnum.out.mono ?_
      rintro e w4 ⟨rfl, rfl⟩
      go_wp2_with fail
      obtain ⟨rz, hz⟩ := hv.out.zero
      generalize (((((W3.setCell ⟨w.heap.size, 0, none⟩ (.int .i64 0)).setCell ⟨w.heap.size, 1, none⟩ (.int .i64 0)).setCell ⟨w.heap.size, 2, none⟩ (.string ByteArray.empty)).setCell ⟨w.heap.size, 3, none⟩ (.slice none 0 0)).setCell ⟨w.heap.size, 4, none⟩ (.slice none 0 0)) = w9 at *
      exact rt_bad rfl rfl rfl rfl rz hRR.out hz
    rw [if_neg hbig] at hRR
    have q1 : ¬ 2048 < (n : Int) := by omega
    have htx := hid (chunk_calls (hb0.out.later hv.out.below) hl (p + 1 + j) (by omega) n (by omega))
    simp only at hRR
    rw [List.drop_drop] at hRR
    cases hX : txtR n (l.drop (p + 1 + j)) with
    | bad x =>
      rw [hX] at hRR htx
      have hx := txtR_pos hX
      have hx0 : (x != 0) = true := by simp; omega
      have hx1 : ¬ x = 0 := by omega
      simp only at hRR
      replace hRR := hid hRR
      clear hX
      go_wp2_with fail
      refine hnum.out.mono ?_
      rintro e w4 ⟨rfl, rfl⟩
      go_wp2_with fail
      refine htx.out.mono ?_
      rintro e w4 ⟨h4, rfl⟩
      have hv4 := hid (hv.out.later h4)
      clear c60 c61 c62 c63 c64 c90 c91 c92 c93 c94 cA0 cA1 cA2 cA3 cA4 f6 fA
      have c60 := box_at (j := 0) hv4.out.r6 rfl
      have c61 := box_at (j := 1) hv4.out.r6 rfl
      have c62 := box_at (j := 2) hv4.out.r6 rfl
      have c63 := box_at (j := 3) hv4.out.r6 rfl
      have c64 := box_at (j := 4) hv4.out.r6 rfl
      have c90 := box_at (j := 0) hv4.out.r9 rfl
      have c91 := box_at (j := 1) hv4.out.r9 rfl
      have c92 := box_at (j := 2) hv4.out.r9 rfl
      have c93 := box_at (j := 3) hv4.out.r9 rfl
      have c94 := box_at (j := 4) hv4.out.r9 rfl
      have cA0 := box_at (j := 0) hv4.out.r10 rfl
      have cA1 := box_at (j := 1) hv4.out.r10 rfl
      have cA2 := box_at (j := 2) hv4.out.r10 rfl
      have cA3 := box_at (j := 3) hv4.out.r10 rfl
      have cA4 := box_at (j := 4) hv4.out.r10 rfl
      have f6 := box_free hv4.out.r6
      have fA := box_free hv4.out.r10
      go_upto_region 34 with fail
      have hv5 := hid (hv4.out.set 2 (.string ByteArray.empty))
      clear c60 c61 c62 c63 c64 c90 c91 c92 c93 c94 cA0 cA1 cA2 cA3 cA4 f6 fA
      generalize w4.setCell ⟨w.heap.size + 1 + 1, 2, none⟩ (.string ByteArray.empty) = W5 at *
      replace hv5 : Hid (VT w #[.int .i64 4, .int .i64 0, .string ByteArray.empty, .slice none 0 0, .slice none 0 0] W5) := hv5
      have c60 := box_at (j := 0) hv5.out.r6 rfl
      have c61 := box_at (j := 1) hv5.out.r6 rfl
      have c62 := box_at (j := 2) hv5.out.r6 rfl
      have c63 := box_at (j := 3) hv5.out.r6 rfl
      have c64 := box_at (j := 4) hv5.out.r6 rfl
      have c90 := box_at (j := 0) hv5.out.r9 rfl
      have c91 := box_at (j := 1) hv5.out.r9 rfl
      have c92 := box_at (j := 2) hv5.out.r9 rfl
      have c93 := box_at (j := 3) hv5.out.r9 rfl
      have c94 := box_at (j := 4) hv5.out.r9 rfl
      have cA0 := box_at (j := 0) hv5.out.r10 rfl
      have cA1 := box_at (j := 1) hv5.out.r10 rfl
      have cA2 := box_at (j := 2) hv5.out.r10 rfl
      have cA3 := box_at (j := 3) hv5.out.r10 rfl
      have cA4 := box_at (j := 4) hv5.out.r10 rfl
      have f6 := box_free hv5.out.r6
      have fA := box_free hv5.out.r10
      go_wp2_with fail
      obtain ⟨rz, hz⟩ := hv5.out.zero
      generalize (((((W5.setCell ⟨w.heap.size, 0, none⟩ (.int .i64 0)).setCell ⟨w.heap.size, 1, none⟩ (.int .i64 0)).setCell ⟨w.heap.size, 2, none⟩ (.string ByteArray.empty)).setCell ⟨w.heap.size, 3, none⟩ (.slice none 0 0)).setCell ⟨w.heap.size, 4, none⟩ (.slice none 0 0)) = w9 at *
      exact rt_bad rfl rfl rfl rfl rz hRR.out hz
    | ok t i =>
      rw [hX] at hRR htx
      have hts := hid (txt_size hX)
      simp only at hRR
      replace hRR := hid hRR
      clear hX
      go_wp2_with fail
      refine hnum.out.mono ?_
      rintro e w4 ⟨rfl, rfl⟩
      go_wp2_with fail
      refine htx.out.mono ?_
      rintro e w4 ⟨h4, rfl⟩
      have hv4 := hid (hv.out.later h4)
      clear c60 c61 c62 c63 c64 c90 c91 c92 c93 c94 cA0 cA1 cA2 cA3 cA4 f6 fA
      have c60 := box_at (j := 0) hv4.out.r6 rfl
      have c61 := box_at (j := 1) hv4.out.r6 rfl
      have c62 := box_at (j := 2) hv4.out.r6 rfl
      have c63 := box_at (j := 3) hv4.out.r6 rfl
      have c64 := box_at (j := 4) hv4.out.r6 rfl
      have c90 := box_at (j := 0) hv4.out.r9 rfl
      have c91 := box_at (j := 1) hv4.out.r9 rfl
      have c92 := box_at (j := 2) hv4.out.r9 rfl
      have c93 := box_at (j := 3) hv4.out.r9 rfl
      have c94 := box_at (j := 4) hv4.out.r9 rfl
      have cA0 := box_at (j := 0) hv4.out.r10 rfl
      have cA1 := box_at (j := 1) hv4.out.r10 rfl
      have cA2 := box_at (j := 2) hv4.out.r10 rfl
      have cA3 := box_at (j := 3) hv4.out.r10 rfl
      have cA4 := box_at (j := 4) hv4.out.r10 rfl
      have f6 := box_free hv4.out.r6
      have fA := box_free hv4.out.r10
      go_upto_region 34 with fail
      have hv5 := hid (hv4.out.set 2 (.string t))
      clear c60 c61 c62 c63 c64 c90 c91 c92 c93 c94 cA0 cA1 cA2 cA3 cA4 f6 fA
      generalize w4.setCell ⟨w.heap.size + 1 + 1, 2, none⟩ (.string t) = W5 at *
      replace hv5 : Hid (VT w #[.int .i64 4, .int .i64 0, .string t, .slice none 0 0, .slice none 0 0] W5) := hv5
      have c60 := box_at (j := 0) hv5.out.r6 rfl
      have c61 := box_at (j := 1) hv5.out.r6 rfl
      have c62 := box_at (j := 2) hv5.out.r6 rfl
      have c63 := box_at (j := 3) hv5.out.r6 rfl
      have c64 := box_at (j := 4) hv5.out.r6 rfl
      have c90 := box_at (j := 0) hv5.out.r9 rfl
      have c91 := box_at (j := 1) hv5.out.r9 rfl
      have c92 := box_at (j := 2) hv5.out.r9 rfl
      have c93 := box_at (j := 3) hv5.out.r9 rfl
      have c94 := box_at (j := 4) hv5.out.r9 rfl
      have cA0 := box_at (j := 0) hv5.out.r10 rfl
      have cA1 := box_at (j := 1) hv5.out.r10 rfl
      have cA2 := box_at (j := 2) hv5.out.r10 rfl
      have cA3 := box_at (j := 3) hv5.out.r10 rfl
      have cA4 := box_at (j := 4) hv5.out.r10 rfl
      have f6 := box_free hv5.out.r6
      have fA := box_free hv5.out.r10
      go_wp2_with fail
      exact rt_ok (n := 1 + (j + i)) rfl rfl (by simp; omega) rfl (set5_box hv5.out.r6) hRR.out (set5_below hv5.out.below (Nat.le_refl _) _ _ _ _ _) (rd_atom ⟨by decide, by decide⟩ ⟨by decide, by decide⟩ (by have := hts.out; omega))
end Go.Proofs.YtihcegakghmdfaaDoor
