/-
  Plain: chapter 6's examples. No condition.
  Walk: holds, of chapter 6's examples. No condition.
-/
import Derived.Test.YthjihdpleclejaaDoorMgPthV
import Derived.Test.YthjihdpleclejaaDoorMgPthS
namespace Go.Proofs.YthjihdpleclejaaDoor
/-- The examples' value with another one under its first name. -/
def kA (A : PVal) : PVal := docL [bs1 97, bs1 99] [A, textV (bs1 120)]
def kB : PVal := docV (bs1 98) (intV 2)
def kE : PVal := docV (bs1 101) (intV 7)
def kD : PVal := docL [bs1 97, bs1 99, bs1 100] [oneB 2, textV (bs1 120), kE]
def kN : PVal := .mk 1 0 ByteArray.empty [] [] []
theorem k1 : gotP (knownV 2) ⟨#[97, 46, 50]⟩ = none := by kernel_rfl
theorem k2 : gotP (knownV 2) ⟨#[97, 46, 48, 49]⟩ = none := by kernel_rfl
theorem k3 : setP (knownV 2) ⟨#[100, 46, 101]⟩ (intV 7) = (kD, 0) := by kernel_rfl
theorem k4 : gotP kD ⟨#[100]⟩ = some kE := by kernel_rfl
theorem k5 : setP (knownV 2) ⟨#[97, 46, 48]⟩ kN = (kA (listV [kN, kB]), 0) := by kernel_rfl
theorem k6 : setP (knownV 2) ⟨#[99, 46, 113]⟩ (intV 1) = (zeroP, 7) := by kernel_rfl
theorem k7 : setP (knownV 2) ⟨#[97, 46, 50]⟩ (intV 1) = (zeroP, 8) := by kernel_rfl
theorem k8 : unsetP (knownV 2) ⟨#[97, 46, 48]⟩ = (kA (listV [kB]), 0) := by kernel_rfl
theorem k9 : unsetP (knownV 2) ⟨#[122]⟩ = (knownV 2, 0) := by kernel_rfl
theorem k10 : pushP (knownV 2) ⟨#[97]⟩ (intV 3) = (kA (listV [intV 1, kB, intV 3]), 0) := by kernel_rfl
theorem k11 : pushP (knownV 2) ⟨#[99]⟩ (intV 1) = (zeroP, 7) := by kernel_rfl
theorem k12 : addP (knownV 2) ⟨#[97, 46, 48]⟩ 4 = (kA (listV [intV 5, kB]), 0) := by kernel_rfl
end Go.Proofs.YthjihdpleclejaaDoor

namespace Go.Proofs.YthjihdpleclejaaDoor
open Go.RowKit Go.Proofs

/-- Five cells behind a name are laid. -/
def setn (w : World) (g : Nat) (u0 u1 u2 u3 u4 : Value) : World :=
  ((((w.setCell ⟨g, 1, none⟩ u0).setCell ⟨g, 2, none⟩ u1).setCell ⟨g, 3, none⟩ u2).setCell ⟨g, 4, none⟩ u3).setCell ⟨g, 5, none⟩ u4
theorem setn_box {w : World} {g : Nat} {m a0 a1 a2 a3 a4 n b0 b1 b2 b3 b4 u0 u1 u2 u3 u4 : Value} {t : TypeId} (h : w.heap[g]? = some (.cells #[m, a0, a1, a2, a3, a4, n, b0, b1, b2, b3, b4] t (0, 0))) :
    (setn w g u0 u1 u2 u3 u4).heap[g]? = some (.cells #[m, u0, u1, u2, u3, u4, n, b0, b1, b2, b3, b4] t (0, 0)) :=
  row_setCell (row_setCell (row_setCell (row_setCell (row_setCell h))))
theorem setn_below {B g : Nat} {a w : World} (h : Below B a w) (hg : B ≤ g) (u0 u1 u2 u3 u4 : Value) : Below B a (setn w g u0 u1 u2 u3 u4) :=
  ((((h.setCell (p := ⟨g, 1, none⟩) hg u0).setCell (p := ⟨g, 2, none⟩) hg u1).setCell (p := ⟨g, 3, none⟩) hg u2).setCell (p := ⟨g, 4, none⟩) hg u3).setCell (p := ⟨g, 5, none⟩) hg u4
theorem setn_other (w : World) (g : Nat) (u0 u1 u2 u3 u4 : Value) {b : Nat} (h : b ≠ g) : (setn w g u0 u1 u2 u3 u4).heap[b]? = w.heap[b]? := by
  unfold setn
  rw [Below.heap_setCell _ _ _ _ h, Below.heap_setCell _ _ _ _ h, Below.heap_setCell _ _ _ _ h, Below.heap_setCell _ _ _ _ h, Below.heap_setCell _ _ _ _ h]
theorem setn_size (w : World) (g : Nat) (u0 u1 u2 u3 u4 : Value) : (setn w g u0 u1 u2 u3 u4).heap.size = w.heap.size := by simp [setn, World.setCell]

set_option maxRecDepth 100000 in
set_option maxHeartbeats 2000000 in
theorem holds_calls (A : PVal) {w : World} {cs ys : List Value} (hV : Rd w (Now w) (kA A) cs) (hA : Rd w (Now w) A ys) :
    Calls Tryd.prog 30 #[.agg cs.toArray, .int .i64 0, .agg ys.toArray] w fun e w' => e = .returned (.bool true) ∧ Below w.heap.size w w' := by
  have hk := hid known_calls
  have hsm := hid (fun w cs cs' h h' => same6_calls (kA A) (kA A) true (by simp) w cs cs' h h')
  have xV := hid hV
  have xA := hid hA
  obtain ⟨vk, vn, vt, va, vl, vc, vf, vm, vg, rfl⟩ := hV.cells5
  obtain ⟨uk, un, ut, ua, ul, uc, uf, um, ug, rfl⟩ := hA.cells5
  clear hV hA
  go_enter Tryd.func30, Tryd.ntmps30
  have D := hid (Below.refl w.heap.size w)
  go_upto_region 1 with fail
  obtain ⟨w1, hw_⟩ : ∃ x, x = (w.alloc (.cells #[.int .i64 vk, .int .i64 vn, .string vt, .slice va vl vc, .slice vf vm vg] 25)).alloc (.cells #[.int .i64 uk, .int .i64 un, .string ut, .slice ua ul uc, .slice uf um ug] 25) := ⟨_, rfl⟩
  have N : Hid (Below w.heap.size w w1) := by show Below _ _ _; rw [hw_]; exact (below_new _ _).step (below_new _ _)
  have r3 : Hid (w1.heap[w.heap.size]? = some (.cells #[.int .i64 vk, .int .i64 vn, .string vt, .slice va vl vc, .slice vf vm vg] 25 (0, 0))) := by show _ = _; rw [hw_]; exact al_old (al_at rfl)
  have r5 : Hid (w1.heap[w.heap.size + 1]? = some (.cells #[.int .i64 uk, .int .i64 un, .string ut, .slice ua ul uc, .slice uf um ug] 25 (0, 0))) := by show _ = _; rw [hw_]; exact al_at (by simp)
  rw [← hw_]
  clear hw_
  replace D := hid (D.out.step N.out)
  replace xV := hid (xV.out.later N.out)
  replace xA := hid (xA.out.later N.out)
  clear N
  have h9 := hid (lt_of_block r5.out)
  go_wp2_with fail
  refine (hk.out _).mono ?_
  rintro e w2 ⟨g, h, rfl, N0, k⟩
  have N := hid N0
  clear N0
  have hlow := hid k.low
  have rg := hid k.row
  clear k
  go_upto_region 2 with fail
  obtain ⟨w3, hw_⟩ : ∃ x, x = w2.alloc (.cells #[.int .i64 6, .int .i64 0, .string ByteArray.empty, .slice none 0 0, .slice (some ⟨g, 0, none⟩) 2 2] 25) := ⟨_, rfl⟩
  have N2 : Hid (Below w2.heap.size w2 w3) := by show Below _ _ _; rw [hw_]; exact below_new _ _
  have r7 : Hid (w3.heap[w2.heap.size]? = some (.cells #[.int .i64 6, .int .i64 0, .string ByteArray.empty, .slice none 0 0, .slice (some ⟨g, 0, none⟩) 2 2] 25 (0, 0))) := by show _ = _; rw [hw_]; exact heap_alloc_new _ _
  rw [← hw_]
  clear hw_
  have hg2 := hid (lt_of_block rg.out)
  replace N := hid (N.out.step N2.out)
  replace rg := hid ((N2.out.block _ hg2.out).trans rg.out)
  replace r3 := hid ((N.out.block _ (lt_of_block r3.out)).trans r3.out)
  replace r5 := hid ((N.out.block _ (lt_of_block r5.out)).trans r5.out)
  clear N2
  have a4 := box_at (j := 4) r7.out rfl
  have b0 := box_at (j := 0) r5.out rfl
  have b1 := box_at (j := 1) r5.out rfl
  have b2 := box_at (j := 2) r5.out rfl
  have b3 := box_at (j := 3) r5.out rfl
  have b4 := box_at (j := 4) r5.out rfl
  have c1 := box_at (j := 1) rg.out rfl
  have c2 := box_at (j := 2) rg.out rfl
  have c3 := box_at (j := 3) rg.out rfl
  have c4 := box_at (j := 4) rg.out rfl
  have c5 := box_at (j := 5) rg.out rfl
  have f0 := box_free rg.out
  go_upto_region 3 with fail
  clear a4 b0 b1 b2 b3 b4 c1 c2 c3 c4 c5 f0
  have rn := hid (setn_box (u0 := .int .i64 uk) (u1 := .int .i64 un) (u2 := .string ut) (u3 := .slice ua ul uc) (u4 := .slice uf um ug) rg.out)
  have hnb := hid (setn_below N.out hlow.out (.int .i64 uk) (.int .i64 un) (.string ut) (.slice ua ul uc) (.slice uf um ug))
  have hkp := hid (fun b (hb : b ≠ g) => setn_other w3 g (.int .i64 uk) (.int .i64 un) (.string ut) (.slice ua ul uc) (.slice uf um ug) (b := b) hb)
  have hsz := hid (setn_size w3 g (.int .i64 uk) (.int .i64 un) (.string ut) (.slice ua ul uc) (.slice uf um ug))
  unfold setn at rn hnb hkp hsz
  generalize ((((w3.setCell ⟨g, 1, none⟩ (.int .i64 uk)).setCell ⟨g, 2, none⟩ (.int .i64 un)).setCell ⟨g, 3, none⟩ (.string ut)).setCell ⟨g, 4, none⟩ (.slice ua ul uc)).setCell ⟨g, 5, none⟩ (.slice uf um ug) = w4 at *
  have xV4 := hid (xV.out.later hnb.out)
  have xA4 := hid (xA.out.later hnb.out)
  have xW : Hid (Rd w4 (Now w4) (kA A) [.int .i64 6, .int .i64 0, .string ByteArray.empty, .slice none 0 0, .slice (some ⟨g, 0, none⟩) 2 2]) := rd_docL (rdF_pair rn.out (lt_of_block rn.out) (by decide) (by decide) xA4.out (rd_flat _ _ ⟨by decide, by decide⟩ ⟨by decide, by decide⟩ (by decide)))
  have q3 := hid ((hkp.out _ (by have := hlow.out; have := lt_of_block r3.out; have := h9.out; omega)).trans r3.out)
  have q7 := hid ((hkp.out _ (by have := hg2.out; omega)).trans r7.out)
  have a0 := box_at (j := 0) q3.out rfl
  have a1 := box_at (j := 1) q3.out rfl
  have a2 := box_at (j := 2) q3.out rfl
  have a3 := box_at (j := 3) q3.out rfl
  have a4 := box_at (j := 4) q3.out rfl
  have b0 := box_at (j := 0) q7.out rfl
  have b1 := box_at (j := 1) q7.out rfl
  have b2 := box_at (j := 2) q7.out rfl
  have b3 := box_at (j := 3) q7.out rfl
  have b4 := box_at (j := 4) q7.out rfl
  go_wp2_with fail
  refine (hsm.out _ _ _ xV4.out xW.out).mono ?_
  rintro e w5 ⟨rfl, h5⟩
  clear a0 a1 a2 a3 a4 b0 b1 b2 b3 b4
  go_wp2_with fail
  go_ret
  exact ⟨rfl, (D.out.step hnb.out).step h5⟩
end Go.Proofs.YthjihdpleclejaaDoor
