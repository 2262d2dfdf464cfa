/-
  Walks: codec.Number, Get.
  Walks: the reference's Number, chunk (of bytes).
-/
import Derived.Test.YtihcegakghmdfaaDoorMgDec6
import Derived.Test.YtihcegakghmdfaaDoorMgEnc1
import Derived.Test.YtihcegakghmdfaaDoorMgDec1
import Derived.Test.YtihcegakghmdfaaDoorMgRef7
namespace Go.Proofs.YtihcegakghmdfaaDoor
open Go.RowKit Go.Proofs

/-- The boxes of three results: a number, a place, an error. -/
structure OutN (w : World) (B : Nat) (n x y : Value) : Prop where
  r0 : w.heap[B]? = some (.cells #[n] 74 (0, 0))
  r1 : w.heap[B + 1]? = some (.cells #[x] 3 (0, 0))
  r2 : w.heap[B + 2]? = some (.cells #[y] 28 (0, 0))
theorem OutN.save {w w' : World} {B g : Nat} {n x y : Value} (h : OutN w B n x y) (hs : Save g w w') (h0 : B ≠ g) (h1 : B + 1 ≠ g) (h2 : B + 2 ≠ g) (hsz : B + 2 < w.heap.size) : OutN w' B n x y :=
  ⟨(hs.block _ (by omega) h0).trans h.r0, (hs.block _ (by omega) h1).trans h.r1, (hs.block _ (by omega) h2).trans h.r2⟩
theorem OutN.set0 {w : World} {B : Nat} {n x y : Value} (h : OutN w B n x y) (u : Value) : OutN (w.setCell ⟨B, 0, none⟩ u) B u x y :=
  ⟨(row_setCell (cs := #[n]) (t := 74) h.r0 : _), (Below.heap_setCell _ _ _ _ (by simp)).trans h.r1, (Below.heap_setCell _ _ _ _ (by simp)).trans h.r2⟩
theorem OutN.set1 {w : World} {B : Nat} {n x y : Value} (h : OutN w B n x y) (u : Value) : OutN (w.setCell ⟨B + 1, 0, none⟩ u) B n u y :=
  ⟨(Below.heap_setCell _ _ _ _ (by simp)).trans h.r0, (row_setCell (cs := #[x]) (t := 3) h.r1 : _), (Below.heap_setCell _ _ _ _ (by simp)).trans h.r2⟩
theorem OutN.set2 {w : World} {B : Nat} {n x y : Value} (h : OutN w B n x y) (u : Value) : OutN (w.setCell ⟨B + 2, 0, none⟩ u) B n x u :=
  ⟨(Below.heap_setCell _ _ _ _ (by simp)).trans h.r0, (Below.heap_setCell _ _ _ _ (by simp)).trans h.r1, (row_setCell (cs := #[y]) (t := 28) h.r2 : _)⟩
theorem OutN.drew {w : World} {B : Nat} {n x y : Value} (h : OutN w B n x y) : OutN w.drew B n x y := ⟨h.r0, h.r1, h.r2⟩
theorem outN_below {a w : World} {B : Nat} (h : Below B a w) (u x y : Value) : Below B a (((w.setCell ⟨B, 0, none⟩ u).setCell ⟨B + 1, 0, none⟩ x).setCell ⟨B + 2, 0, none⟩ y) :=
  ((h.setCell (p := ⟨B, 0, none⟩) (Nat.le_refl _) u).setCell (p := ⟨B + 1, 0, none⟩) (by simp) x).setCell (p := ⟨B + 2, 0, none⟩) (by simp) y

set_option maxRecDepth 100000 in
set_option maxHeartbeats 1000000 in
theorem number_caught (B : Nat) (c : Int) (older : List PanicEntry) (w : World) (n x y : Value) (h : OutN w B n x y) :
    CallsD Tryd.prog 89 #[.pointer (some ⟨B, 0, none⟩), .pointer (some ⟨B + 1, 0, none⟩), .pointer (some ⟨B + 2, 0, none⟩)] (.panicking ({ v := .iface 28 (.int .i64 c), recovered := false } :: older)) w fun e u' w' =>
      e = .returned (.tuple #[]) ∧ u' = .panicking ({ v := .iface 28 (.int .i64 c), recovered := true } :: older) ∧ Below B w w' ∧ OutN w' B (.int .u64 0) (.int .i64 0) (.int .i64 c) := by
  have c0 := box_at (j := 0) h.r0 rfl
  have c1 := box_at (j := 0) h.r1 rfl
  have c2 := box_at (j := 0) h.r2 rfl
  have f0 := box_free h.r0 0
  have f1 := box_free h.r1 0
  have f2 := box_free h.r2 0
  have hca := hid caught_calls
  refine callsD_of_wpS Tryd.func89 rfl fun c₀ cs hu => ?_
  apply wpS_seq
  apply wpS_region
  simp [wpOpsS, go_sem, recoverD, hu, Tryd.ntmps89, Exit.thenS]
  refine wpS_of_wp ?_
  go_wp2_with fail
  refine (hca.out _ _).mono ?_
  rintro e w1 ⟨rfl, rfl⟩
  go_wp2_with fail
  have hB := outN_below (Below.refl B w) (.int .u64 0) (.int .i64 0) (.int .i64 c)
  have hO := ((h.set0 (.int .u64 0)).set1 (.int .i64 0)).set2 (.int .i64 c)
  cases c₀
  simp only at hu
  subst hu
  simp [bodyPostS, results, Tryd.results89]
  exact ⟨hB, hO⟩
set_option maxRecDepth 100000 in
theorem number_idle (a b c : Value) (w : World) :
    CallsD Tryd.prog 89 #[a, b, c] .returning w fun e u' w' => e = .returned (.tuple #[]) ∧ u' = .returning ∧ w' = w := by
  refine callsD_of_wpS Tryd.func89 rfl fun c₀ cs hu => ?_
  apply wpS_seq
  apply wpS_region
  simp [wpOpsS, go_sem, recoverD, hu, Tryd.ntmps89, Exit.thenS]
  refine wpS_of_wp ?_
  go_wp2_with fail
  cases c₀
  simp_all [bodyPostS, results, Tryd.results89]

/-- What a number at a place is; no place: an argument that may not be. -/
def numAt (l : List UInt8) (z : Int) : Got Nat := if z < 0 ∨ (l.length : Int) < z then .bad 1 else numR 0 0 (l.drop z.toNat)
/-- What Number tells. -/
def Numbered (R : Got Nat) (z : Int) (w : World) (e : Ending) (w' : World) : Prop :=
  Below w.heap.size w w' ∧ match R with
    | .bad c => e = .returned (.tuple #[.int .u64 0, .int .i64 0, .int .i64 c])
    | .ok n k => e = .returned (.tuple #[.int .u64 n, .int .i64 (z + k), .int .i64 0])

set_option maxRecDepth 100000 in
set_option maxHeartbeats 4000000 in
theorem enumber_calls {w : World} {bv : Value} {l : List UInt8} (hb : BytesAt w (Now w) l bv) (hl : l.length ≤ 140737488355328) (z : Int) (hz : I64 z) :
    Calls Tryd.prog 51 #[bv, .int .i64 z] w (Numbered (numAt l z) z w) := by
  obtain ⟨R, hR⟩ : ∃ R, R = numAt l z := ⟨_, rfl⟩
  rw [← hR]
  unfold numAt at hR
  have hmf : ∀ (fn : Fn) (first cap : Array Value) (w : World), (Instr.makeFunc fn first cap).run Tryd.prog w = .ok (.func fn first cap) w := fun _ _ _ _ => rfl
  have hb0 := hid hb
  obtain ⟨a, cap, rfl, hc1, hc2, _⟩ := hb
  by_cases hneg : z < 0
  · rw [if_pos (.inl hneg)] at hR
    subst hR
    go_enter_defers Tryd.func51, Tryd.ntmps51
    go_wp2_with fail
    simp [bodyPostD, Leaves, results, Tryd.results51, go_sem]
    exact ⟨((below_new _ _).step (below_new _ _)).step (below_new _ _), rfl⟩
  by_cases hbig : (l.length : Int) < z
  · rw [if_pos (.inr hbig)] at hR
    subst hR
    go_enter_defers Tryd.func51, Tryd.ntmps51
    go_wp2_with fail
    simp [bodyPostD, Leaves, results, Tryd.results51, go_sem]
    exact ⟨((below_new _ _).step (below_new _ _)).step (below_new _ _), rfl⟩
  rw [if_neg (by omega)] at hR
  obtain ⟨p, rfl⟩ := Int.eq_ofNat_of_zero_le (Int.not_lt.1 hneg)
  have hp : p ≤ l.length := by omega
  rw [Int.toNat_natCast] at hR
  have g1 : ¬ ((p : Int) < 0) := hneg
  have g2 : ¬ ((l.length : Int) < (p : Int)) := hbig
  obtain ⟨W4, hW4⟩ : ∃ W4, W4 = (((w.alloc (.cells #[.int .u64 0] 74)).alloc (.cells #[.int .i64 0] 3)).alloc (.cells #[.int .i64 0] 28)).alloc (.cells #[.slice a l.length cap, .int .i64 (p : Int)] 101) := ⟨_, rfl⟩
  have hb4 : Hid (Below w.heap.size w W4) := by show Below _ _ _; rw [hW4]; exact (((below_new _ _).step (below_new _ _)).step (below_new _ _)).step (below_new _ _)
  have ho4 : Hid (OutN W4 w.heap.size (.int .u64 0) (.int .i64 0) (.int .i64 0)) := by
    rw [hW4]
    exact ⟨al_old (al_old (al_old (al_at rfl))), al_old (al_old (al_at (by simp))), al_old (al_at (by simp))⟩
  have hat : Hid (At W4 (w.heap.size + 1 + 1 + 1) (.slice a l.length cap) l p) :=
    ⟨by rw [hW4]; exact al_at (by simp), hb0.out.keep (fun b hb => by have : b < w.heap.size := hb; omega) (fun b hb => hb4.out.block b hb), hp, hl⟩
  have hsz4 : Hid (W4.heap.size = w.heap.size + 1 + 1 + 1 + 1) := by show _ = _; rw [hW4]; simp
  have hval := hid (number_calls hat.out)
  rw [← hR] at hval
  clear hneg hbig
  cases R with
  | bad c =>
    clear hR
    go_enter_defers Tryd.func51, Tryd.ntmps51
    go_wp2_with fail
    rw [← hW4]
    refine hval.out.mono ?_
    rintro e w5 ⟨hs5, rfl⟩
    go_wp2_with fail
    have ho5 := hid (ho4.out.save hs5 (by omega) (by omega) (by omega) (by have := hsz4.out; omega))
    refine leaves_cons (f := 89) (args := #[.pointer (some ⟨w.heap.size, 0, none⟩), .pointer (some ⟨w.heap.size + 1, 0, none⟩), .pointer (some ⟨w.heap.size + 1 + 1, 0, none⟩)]) (by simp) (by simp [go_sem]) ?_
    refine (number_caught w.heap.size c [] w5 _ _ _ ho5.out).mono ?_
    rintro e u' w6 ⟨rfl, rfl, hb6, ho6⟩
    have z0 := box_at (j := 0) ho6.r0 rfl
    have z5 := box_at (j := 0) ho6.r1 rfl
    have z6 := box_at (j := 0) ho6.r2 rfl
    simp [Leaves, settle, results, Tryd.results51, go_sem, z0, z5, z6]
    exact ⟨(hb4.out.trans (hs5.below (by omega) (by have := hsz4.out; omega))).trans hb6, rfl⟩
  | ok n k =>
    have hgl : Hid (w.heap.size + 1 + 1 + 1 < W4.heap.size) := by show _ < _; have := hsz4.out; omega
    have hn0 : Hid (n < 18446744073709551616) := (num_inv hR.symm).1
    clear hR
    go_enter_defers Tryd.func51, Tryd.ntmps51
    go_wp2_with fail
    rw [← hW4]
    refine hval.out.mono ?_
    rintro e w5 ⟨hs5, v5, rfl, rfl, ha5⟩
    have ho5 := ho4.out.save hs5 (by omega) (by omega) (by omega) (by have := hsz4.out; omega)
    have c00 := box_at (j := 0) ho5.r0 rfl
    have f0 := box_free ho5.r0 0
    have ho7 := hid (ho5.set0 (.int .u64 (n : Int)))
    have hb7 := hid ((hb4.out.trans (hs5.below (by omega) hgl.out)).setCell (p := ⟨w.heap.size, 0, none⟩) (Nat.le_refl _) (.int .u64 (n : Int)))
    have hrg : Hid ((w5.setCell ⟨w.heap.size, 0, none⟩ (.int .u64 (n : Int))).heap[w.heap.size + 1 + 1 + 1]? = some (.cells #[.slice a l.length cap, .int .i64 ((p : Int) + (k : Int))] 101 (0, 0))) := by
      show _ = _
      rw [Below.heap_setCell _ _ _ _ (by simp; omega), ha5.row]; rfl
    clear ho5 ha5 hs5
    go_upto_region 6 with fail
    generalize w5.setCell ⟨w.heap.size, 0, none⟩ (.int .u64 (n : Int)) = w7 at *
    clear c00 f0
    refine wp_region_noPanic ?_
    refine wp_region_T (TkS (w.heap.size + 1 + 1 + 1) (.int .i64 ((p : Int) + (k : Int)))) 6 (by kernel_rfl) ?_
    have hS0 : TkS (w.heap.size + 1 + 1 + 1) (.int .i64 ((p : Int) + (k : Int))) w7.drew := tkS_mk hrg.out rfl
    ((refine wpAnyT_take (i := 1) (v := ?_) rfl (by kernel_rfl) (by kernel_rfl) (by kernel_rfl) (by kernel_rfl) (by exact fun _ _ _ h => h) (Or.inl ⟨by rfl, ?_⟩) hS0 ?_; rotate_left 1; focus (intro w hSw; unfold TkS at hSw; (try dsimp only at hSw); go_simp; try with_reducible rfl); (try simp only [List.getElem_toArray, List.getElem_cons_zero, List.getElem_cons_succ, Act.put, List.setIfInBounds_toArray, List.set_cons_zero, List.set_cons_succ])); (refine wpAnyT_take (i := 2) (v := ?_) rfl (by kernel_rfl) (by kernel_rfl) (by kernel_rfl) (by kernel_rfl) (by exact fun _ _ _ h => h) (Or.inl ⟨by rfl, ?_⟩) hS0 ?_; rotate_left 1; focus (intro w hSw; unfold TkS at hSw; (try dsimp only at hSw); go_simp; try with_reducible rfl); (try simp only [List.getElem_toArray, List.getElem_cons_zero, List.getElem_cons_succ, Act.put, List.setIfInBounds_toArray, List.set_cons_zero, List.set_cons_succ])); (refine wpAnyT_take (i := 3) (v := ?_) rfl (by kernel_rfl) (by kernel_rfl) (by kernel_rfl) (by kernel_rfl) (by exact fun _ _ _ h => h) (Or.inl ⟨by rfl, ?_⟩) hS0 ?_; rotate_left 1; focus (intro w hSw; unfold TkS at hSw; (try dsimp only at hSw); go_simp; try with_reducible rfl); (try simp only [List.getElem_toArray, List.getElem_cons_zero, List.getElem_cons_succ, Act.put, List.setIfInBounds_toArray, List.set_cons_zero, List.set_cons_succ])); (refine wpAnyT_take (i := 4) (v := ?_) rfl (by kernel_rfl) (by kernel_rfl) (by kernel_rfl) (by kernel_rfl) (by exact fun _ _ _ h => h) (Or.inl ⟨by rfl, ?_⟩) hS0 ?_; rotate_left 1; focus (intro w hSw; unfold TkS at hSw; (try dsimp only at hSw); go_simp; try with_reducible rfl); (try simp only [List.getElem_toArray, List.getElem_cons_zero, List.getElem_cons_succ, Act.put, List.setIfInBounds_toArray, List.set_cons_zero, List.set_cons_succ])))
    have c00 := box_at (j := 0) ho7.out.r0 rfl
    have c05 := box_at (j := 0) ho7.out.r1 rfl
    have c06 := box_at (j := 0) ho7.out.r2 rfl
    have f0 := box_free ho7.out.r0 0
    have f1 := box_free ho7.out.r1 0
    have f2 := box_free ho7.out.r2 0
    refine wpAnyT_one (i := 0) (by kernel_rfl) rfl (fun K hK => ?_)
    go_simp
    (refine hK.out _ _ (fun _ => hS0) (fun _ => ?_); clear hK K; (try simp only [Act.put, List.setIfInBounds_toArray, List.set_cons_zero, List.set_cons_succ]))
    clear hS0
    refine wpAnyT_one (i := 5) (by kernel_rfl) rfl (fun K hK => ?_)
    go_simp
    (refine hK.out _ _ (fun _ => tkS_mk hrg.out (Below.heap_setCell _ _ _ _ (by simp; omega))) (fun _ => ?_); clear hK K; (try simp only [Act.put, List.setIfInBounds_toArray]))
    refine wpAnyT_one (i := 6) (by kernel_rfl) rfl (fun K hK => ?_)
    go_simp
    (refine hK.out _ _ (fun h => absurd h (by decide)) (fun _ => ?_); clear hK K; (try simp only [Act.put, List.setIfInBounds_toArray]))
    refine wpAnyT_one (i := 7) (by kernel_rfl) rfl (fun K hK => ?_)
    go_simp
    (refine hK.out _ _ (fun h => absurd h (by decide)) (fun _ => ?_); clear hK K; (try simp only [Act.put, List.setIfInBounds_toArray]))
    refine wpAnyT_done (by kernel_rfl) (NoPanic.normal ?_) _
    have ho9 := hid ((((ho7.out.set0 (.int .u64 (n : Int))).set1 (.int .i64 ((p : Int) + (k : Int)))).set2 (.int .i64 0)).drew)
    have hb9 := hid (outN_below hb7.out (.int .u64 (n : Int)) (.int .i64 ((p : Int) + (k : Int))) (.int .i64 0)).drew
    clear c00 c05 c06 f0 f1 f2
    rw [show w.heap.size + 2 = w.heap.size + 1 + 1 from rfl] at ho9 hb9
    generalize (((w7.setCell ⟨w.heap.size, 0, none⟩ (.int .u64 (n : Int))).setCell ⟨w.heap.size + 1, 0, none⟩ (.int .i64 ((p : Int) + (k : Int)))).setCell ⟨w.heap.size + 1 + 1, 0, none⟩ (.int .i64 0)).drew = w9 at *
    go_wp2_with fail
    refine leaves_cons (f := 89) (args := #[.pointer (some ⟨w.heap.size, 0, none⟩), .pointer (some ⟨w.heap.size + 1, 0, none⟩), .pointer (some ⟨w.heap.size + 1 + 1, 0, none⟩)]) (by simp) (by simp [go_sem]) ?_
    refine (number_idle _ _ _ w9).mono ?_
    rintro e u' w10 ⟨rfl, rfl, rfl⟩
    have z0 := box_at (j := 0) ho9.out.r0 rfl
    have z5 := box_at (j := 0) ho9.out.r1 rfl
    have z6 := box_at (j := 0) ho9.out.r2 rfl
    simp [Leaves, settle, results, Tryd.results51, go_sem, z0, z5, z6]
    exact ⟨hb9.out, rfl⟩

/-- What Get tells. -/
def GotV (R : Got PVal) (w : World) (e : Ending) (w' : World) : Prop :=
  Below w.heap.size w w' ∧ match R with
    | .bad c => e = .returned (.tuple #[.agg none5, .int .i64 c])
    | .ok V _ => ∃ cs, e = .returned (.tuple #[.agg cs.toArray, .int .i64 0]) ∧ Rd w' (From w.heap.size w') V cs

set_option maxRecDepth 100000 in
set_option maxHeartbeats 2000000 in
theorem get_calls {w : World} {bv : Value} {l : List UInt8} (hb : BytesAt w (Now w) l bv) (hT : Tabs w) (hl : l.length ≤ 140737488355328) :
    Calls Tryd.prog 27 #[bv] w (GotV (getR l) w) := by
  have ht := hid (fun (w' : World) (h : Below w.heap.size w w') => take_calls (hb.later h) (Tabs.stays w w' hT h) hl 0 (by unfold I64; omega))
  have e0 : takeAt l 0 = takeR l := by unfold takeAt; rw [if_neg (by omega)]; rfl
  rw [e0] at ht
  obtain ⟨a, cap, rfl, hc1, hc2, _⟩ := hb
  unfold getR
  cases hR : takeR l with
  | bad c =>
    rw [hR] at ht
    have hc := takeR_pos hR
    have hc0 : (c != 0) = true := by simp; omega
    have hc1 : ¬ c = 0 := by omega
    replace hR := hid hR
    go_enter Tryd.func27, Tryd.ntmps27
    go_wp2_with fail
    refine (ht.out _ (below_new _ _)).mono ?_
    rintro e w2 ⟨h2, rfl⟩
    unfold none5
    have hb2 := hid ((below_new w _).step h2)
    have r2 := hid ((h2.block w.heap.size (by simp)).trans (heap_alloc_new w _))
    go_upto_region 2 with fail
    obtain ⟨w3, hw3⟩ : ∃ w3, w3 = w2.alloc (.cells #[.int .i64 0, .int .i64 0, .string ByteArray.empty, .slice none 0 0, .slice none 0 0] 25) := ⟨_, rfl⟩
    have hb3 : Hid (Below w2.heap.size w2 w3) := by show Below _ _ _; rw [hw3]; exact below_new _ _
    have r4 : Hid (w3.heap[w2.heap.size]? = some (.cells #[.int .i64 0, .int .i64 0, .string ByteArray.empty, .slice none 0 0, .slice none 0 0] 25 (0, 0))) := by show _ = _; rw [hw3]; exact heap_alloc_new _ _
    have r3 := hid ((hb3.out.block _ (lt_of_block r2.out)).trans r2.out)
    have hlt : Hid (w.heap.size < w2.heap.size) := lt_of_block r2.out
    rw [← hw3]
    clear hw3 r2 h2
    have c00 := box_at (j := 0) r3.out rfl
    have c01 := box_at (j := 1) r3.out rfl
    have c02 := box_at (j := 2) r3.out rfl
    have c03 := box_at (j := 3) r3.out rfl
    have c04 := box_at (j := 4) r3.out rfl
    have f0 := box_free r3.out
    go_wp2_with fail
    have rz := hid (set5_box (u0 := (.int .i64 0)) (u1 := (.int .i64 0)) (u2 := (.string ⟨#[]⟩)) (u3 := (.slice none 0 0)) (u4 := (.slice none 0 0)) r3.out)
    have hbz := hid (set5_below (hb2.out.step hb3.out) (Nat.le_refl _) (.int .i64 0) (.int .i64 0) (.string ⟨#[]⟩) (.slice none 0 0) (.slice none 0 0))
    unfold set5 at rz hbz
    clear c00 c01 c02 c03 c04 f0
    generalize (((((w3.setCell ⟨w.heap.size, 0, none⟩ (.int .i64 0)).setCell ⟨w.heap.size, 1, none⟩ (.int .i64 0)).setCell ⟨w.heap.size, 2, none⟩ (.string ⟨#[]⟩)).setCell ⟨w.heap.size, 3, none⟩ (.slice none 0 0)).setCell ⟨w.heap.size, 4, none⟩ (.slice none 0 0)) = w9 at *
    have z0 := box_at (j := 0) rz.out rfl
    have z1 := box_at (j := 1) rz.out rfl
    have z2 := box_at (j := 2) rz.out rfl
    have z3 := box_at (j := 3) rz.out rfl
    have z4 := box_at (j := 4) rz.out rfl
    refine ⟨rfl, _, by simp [results, Tryd.results27, go_sem, z0, z1, z2, z3, z4]; rfl, hbz.out, rfl⟩
  | ok V n =>
    rw [hR] at ht
    have hnle : n ≤ l.length := by
      unfold takeR at hR
      split at hR
      · cases hR
      rename_i hv
      split at hR
      · cases hR
      injection hR with e1 e2
      subst e1 e2
      exact (val_is 8 _ _ _ hv).2.le
    obtain ⟨kk, kn, ks, kl, kfn, kfv⟩ := V
    clear hR
    by_cases hlt' : n < l.length
    · simp only [if_pos hlt']
      have d1 : (n : Int) < (l.length : Int) := by omega
      go_enter Tryd.func27, Tryd.ntmps27
      go_wp2_with fail
      refine (ht.out _ (below_new _ _)).mono ?_
      rintro e w2 ⟨h2, cs2, rfl, hr2⟩
      obtain ⟨ka, kc, kf, kg, rfl, _⟩ := hr2.inv
      clear hr2
      have hb2 := hid ((below_new w _).step h2)
      have r2 := hid ((h2.block w.heap.size (by simp)).trans (heap_alloc_new w _))
      go_upto_region 2 with fail
      obtain ⟨w3, hw3⟩ : ∃ w3, w3 = w2.alloc (.cells #[.int .i64 kk, .int .i64 kn, .string ks, .slice ka kl.length kc, .slice kf kfv.length kg] 25) := ⟨_, rfl⟩
      have hb3 : Hid (Below w2.heap.size w2 w3) := by show Below _ _ _; rw [hw3]; exact below_new _ _
      have r4 : Hid (w3.heap[w2.heap.size]? = some (.cells #[.int .i64 kk, .int .i64 kn, .string ks, .slice ka kl.length kc, .slice kf kfv.length kg] 25 (0, 0))) := by show _ = _; rw [hw3]; exact heap_alloc_new _ _
      have r3 := hid ((hb3.out.block _ (lt_of_block r2.out)).trans r2.out)
      have hlt : Hid (w.heap.size < w2.heap.size) := lt_of_block r2.out
      rw [← hw3]
      clear hw3 r2 h2
      have c00 := box_at (j := 0) r3.out rfl
      have c01 := box_at (j := 1) r3.out rfl
      have c02 := box_at (j := 2) r3.out rfl
      have c03 := box_at (j := 3) r3.out rfl
      have c04 := box_at (j := 4) r3.out rfl
      have f0 := box_free r3.out
      go_wp2_with fail
      have rz := hid (set5_box (u0 := (.int .i64 0)) (u1 := (.int .i64 0)) (u2 := (.string ⟨#[]⟩)) (u3 := (.slice none 0 0)) (u4 := (.slice none 0 0)) r3.out)
      have hbz := hid (set5_below (hb2.out.step hb3.out) (Nat.le_refl _) (.int .i64 0) (.int .i64 0) (.string ⟨#[]⟩) (.slice none 0 0) (.slice none 0 0))
      unfold set5 at rz hbz
      clear c00 c01 c02 c03 c04 f0
      generalize (((((w3.setCell ⟨w.heap.size, 0, none⟩ (.int .i64 0)).setCell ⟨w.heap.size, 1, none⟩ (.int .i64 0)).setCell ⟨w.heap.size, 2, none⟩ (.string ⟨#[]⟩)).setCell ⟨w.heap.size, 3, none⟩ (.slice none 0 0)).setCell ⟨w.heap.size, 4, none⟩ (.slice none 0 0)) = w9 at *
      have z0 := box_at (j := 0) rz.out rfl
      have z1 := box_at (j := 1) rz.out rfl
      have z2 := box_at (j := 2) rz.out rfl
      have z3 := box_at (j := 3) rz.out rfl
      have z4 := box_at (j := 4) rz.out rfl
      refine ⟨rfl, _, by simp [results, Tryd.results27, go_sem, z0, z1, z2, z3, z4]; rfl, hbz.out, rfl⟩
    · simp only [if_neg hlt']
      have d1 : ¬ (n : Int) < (l.length : Int) := by omega
      go_enter Tryd.func27, Tryd.ntmps27
      go_wp2_with fail
      refine (ht.out _ (below_new _ _)).mono ?_
      rintro e w2 ⟨h2, cs2, rfl, hr2⟩
      obtain ⟨ka, kc, kf, kg, rfl, _⟩ := hr2.inv
      replace hr2 := hid hr2
      have hb2 := hid ((below_new w _).step h2)
      have r2 := hid ((h2.block w.heap.size (by simp)).trans (heap_alloc_new w _))
      go_upto_region 2 with fail
      obtain ⟨w3, hw3⟩ : ∃ w3, w3 = w2.alloc (.cells #[.int .i64 kk, .int .i64 kn, .string ks, .slice ka kl.length kc, .slice kf kfv.length kg] 25) := ⟨_, rfl⟩
      have hb3 : Hid (Below w2.heap.size w2 w3) := by show Below _ _ _; rw [hw3]; exact below_new _ _
      have r4 : Hid (w3.heap[w2.heap.size]? = some (.cells #[.int .i64 kk, .int .i64 kn, .string ks, .slice ka kl.length kc, .slice kf kfv.length kg] 25 (0, 0))) := by show _ = _; rw [hw3]; exact heap_alloc_new _ _
      have r3 := hid ((hb3.out.block _ (lt_of_block r2.out)).trans r2.out)
      have hlt : Hid (w.heap.size < w2.heap.size) := lt_of_block r2.out
      rw [← hw3]
      clear hw3 r2 h2
      have c00 := box_at (j := 0) r3.out rfl
      have c01 := box_at (j := 1) r3.out rfl
      have c02 := box_at (j := 2) r3.out rfl
      have c03 := box_at (j := 3) r3.out rfl
      have c04 := box_at (j := 4) r3.out rfl
      have f0 := box_free r3.out
      have x0 := box_at (j := 0) r4.out rfl
      have x1 := box_at (j := 1) r4.out rfl
      have x2 := box_at (j := 2) r4.out rfl
      have x3 := box_at (j := 3) r4.out rfl
      have x4 := box_at (j := 4) r4.out rfl
      go_wp2_with fail
      clear x0 x1 x2 x3 x4
      have rz := hid (set5_box (u0 := (.int .i64 kk)) (u1 := (.int .i64 kn)) (u2 := (.string ks)) (u3 := (.slice ka kl.length kc)) (u4 := (.slice kf kfv.length kg)) r3.out)
      have hbz := hid (set5_below (hb2.out.step hb3.out) (Nat.le_refl _) (.int .i64 kk) (.int .i64 kn) (.string ks) (.slice ka kl.length kc) (.slice kf kfv.length kg))
      have hr9 : Hid (Rd (set5 w3 w.heap.size (.int .i64 kk) (.int .i64 kn) (.string ks) (.slice ka kl.length kc) (.slice kf kfv.length kg)) (From w.heap.size (set5 w3 w.heap.size (.int .i64 kk) (.int .i64 kn) (.string ks) (.slice ka kl.length kc) (.slice kf kfv.length kg))) (.mk kk kn ks kl kfn kfv) [.int .i64 kk, .int .i64 kn, .string ks, .slice ka kl.length kc, .slice kf kfv.length kg]) :=
        hr2.out.keep (fun b hb => ⟨by have := hb.1; simp at this; omega, by rw [set5_size]; exact Nat.lt_of_lt_of_le hb.2 hb3.out.size⟩) (fun b hb => by
          rw [set5_other _ _ _ _ _ _ _ (by have := hb.1; simp at this; omega)]
          exact hb3.out.block b hb.2)
      unfold set5 at rz hbz hr9
      clear c00 c01 c02 c03 c04 f0
      generalize (((((w3.setCell ⟨w.heap.size, 0, none⟩ (.int .i64 kk)).setCell ⟨w.heap.size, 1, none⟩ (.int .i64 kn)).setCell ⟨w.heap.size, 2, none⟩ (.string ks)).setCell ⟨w.heap.size, 3, none⟩ (.slice ka kl.length kc)).setCell ⟨w.heap.size, 4, none⟩ (.slice kf kfv.length kg)) = w9 at *
      have z0 := box_at (j := 0) rz.out rfl
      have z1 := box_at (j := 1) rz.out rfl
      have z2 := box_at (j := 2) rz.out rfl
      have z3 := box_at (j := 3) rz.out rfl
      have z4 := box_at (j := 4) rz.out rfl
      refine ⟨rfl, _, by simp [results, Tryd.results27, go_sem, z0, z1, z2, z3, z4], hbz.out, _, rfl, hr9.out⟩
end Go.Proofs.YtihcegakghmdfaaDoor

namespace Go.Proofs.YtihcegakghmdfaaDoor
open Go.RowKit Go.Proofs

/-- What the reference's Number tells. -/
def RNum (R : Got Nat) (p : Nat) (w : World) (e : Ending) (w' : World) : Prop := w = w' ∧ match R with
  | .bad c => e = .returned (.tuple #[.int .u64 0, .int .i64 0, .int .i64 c])
  | .ok n k => e = .returned (.tuple #[.int .u64 n, .int .i64 ((p + k : Nat) : Int), .int .i64 0])

set_option maxRecDepth 100000 in
set_option maxHeartbeats 4000000 in
theorem rnumber_calls {w : World} {bv : Value} {l : List UInt8} (hb : BytesAt w (Now w) l bv) (hl : l.length ≤ 140737488355328) (p : Nat) (hp : p ≤ l.length) :
    Calls Tryd.prog 54 #[bv, .int .i64 p] w (RNum (numR 0 0 (l.drop p)) p w) := by
  obtain ⟨R, hR⟩ : ∃ R, R = numR 0 0 (l.drop p) := ⟨_, rfl⟩
  rw [← hR]
  replace hR := hid hR
  obtain ⟨a, cap, rfl, hc1, hc2, hcell⟩ := hb
  replace hcell := hid hcell
  go_enter Tryd.func54, Tryd.ntmps54
  go_wp2_with fail
  go_loopg [7, 8] 10 (fun gh nn kk wr => ∃ k acc : Nat, gh + k = 10 ∧ k ≤ 9 ∧ p + k ≤ l.length ∧ nn = .int .u64 acc ∧ kk = .int .i64 k ∧ Hid (acc < 128 ^ k) ∧ Hid (numR k acc (l.drop (p + k)) = R) ∧ wr = w)
  case atStart => exact ⟨0, 0, by omega, by omega, hp, rfl, rfl, show (0 : Nat) < 128 ^ 0 by decide, hR.out.symm, rfl⟩
  case round =>
    obtain ⟨k, acc, hgk, hk9, hpk, rfl, rfl, hacc, hN, rfl⟩ := hrel
    have e1 : IntKind.i64.wrap ((p : Int) + (k : Int)) = (p : Int) + (k : Int) := IntWalk.i64_in _ (by omega)
    by_cases hend : p + k = l.length
    · have hRR : Hid (R = .bad 17) := by
        show _ = _
        rw [← hN.out, List.drop_eq_nil_of_le (by omega)]; rfl
      go_wp2_with fail
      go_returns
      exact ⟨rfl, by rw [hRR.out]; rfl⟩
    have hlt : p + k < l.length := by omega
    obtain ⟨d, hd⟩ : ∃ d, l[p + k]? = some d := ⟨_, List.getElem?_eq_getElem hlt⟩
    have hdr : Hid (l.drop (p + k) = d :: l.drop (p + (k + 1))) := by
      show _ = _
      rw [List.drop_eq_getElem_cons hlt, (List.getElem?_eq_some_iff.1 hd).2, Nat.add_assoc]
    obtain ⟨b, off, rfl, hcd⟩ : ∃ b off, a = some ⟨b, off, none⟩ ∧ wr.cell? ⟨b, off + (p + k), none⟩ = some (.int .u8 d.toNat) := by
      rcases hcell.out with hn | ⟨b, off, h1, _, h2⟩
      · subst hn; simp at hlt
      · exact ⟨b, off, h1, h2 _ _ hd⟩
    have f1 : (0 : Int) ≤ (p : Int) + (k : Int) := by omega
    have f2 : (p : Int) + (k : Int) < (l.length : Int) := by omega
    have f3 : ((p : Int) + (k : Int)).toNat = p + k := by omega
    rw [hdr.out, numR] at hN
    have hd8 := d.toNat_lt
    have hand := and127 d.toNat (by omega)
    generalize d.toNat = c at *
    clear hend hd hdr
    by_cases hbig : 9 ≤ k ∧ 1 < c
    · have hRR : Hid (R = .bad 4) := by
        show _ = _
        rw [← hN.out, if_pos hbig]
      have hk : ¬ (k < 9) := by omega
      have hc : 1 < c := hbig.2
      clear hbig
      go_wp2_with fail
      go_returns
      exact ⟨rfl, by rw [hRR.out]; rfl⟩
    have hsmall : Hid (k < 9 ∨ c ≤ 1) := by show _ ∨ _; omega
    rw [if_neg hbig] at hN
    obtain ⟨hor, hA1⟩ := or_lem (c := c) hk9 hsmall.out hacc.out
    obtain ⟨A, hAe⟩ : ∃ A, A = acc + c % 128 * 128 ^ k := ⟨_, rfl⟩
    rw [← hAe] at hor hA1
    replace hor := hid hor
    replace hA1 := hid hA1
    replace hAe := hid hAe
    have q1 : ¬ (k = 9 ∧ 1 < c) := by omega
    have hk19 : k < 9 ∨ k = 9 := by omega
    by_cases g1 : 128 ≤ c
    · rw [if_pos g1] at hN
      rw [← hAe.out] at hN
      have hk8 : k < 9 := by have := hsmall.out; omega
      obtain ⟨K, hK⟩ : ∃ K, K = k + 1 := ⟨_, rfl⟩
      have hN2 : Hid (numR K A (List.drop (p + K) l) = R) := by rw [hK]; exact hN.out
      have hA2 : Hid (A < 128 ^ K) := by rw [hK]; exact hA1.out
      replace hK := hid hK
      have hc : k = 0 ∨ k = 1 ∨ k = 2 ∨ k = 3 ∨ k = 4 ∨ k = 5 ∨ k = 6 ∨ k = 7 ∨ k = 8 := by omega
      clear hN hbig hk19 q1
      go_upto_region 10 with fail
      rcases hc with rfl | rfl | rfl | rfl | rfl | rfl | rfl | rfl | rfl
      all_goals
        replace hor := hor.out
        simp only [Nat.reducePow, Int.mul_one, Int.cast_ofNat_Int] at hor
        go_wp2_with fail
        go_roundg (gk - 1)
        case measure => omega
        case rel => exact ⟨K, A, by have := hK.out; omega, by have := hK.out; omega, by have := hK.out; omega, rfl, by rw [hK.out]; rfl, hA2.out, hN2.out, rfl⟩
    rw [if_neg g1] at hN
    have hcm : c % 128 = c := by omega
    rw [← hcm, ← hAe.out, hcm] at hN
    rw [show (c : Int) % 128 = c by omega] at hor
    clear hcm
    have hcm : (c : Int) % 128 = c := by omega
    have hc : k = 0 ∨ k = 1 ∨ k = 2 ∨ k = 3 ∨ k = 4 ∨ k = 5 ∨ k = 6 ∨ k = 7 ∨ k = 8 ∨ k = 9 := by omega
    obtain ⟨K, hK⟩ : ∃ K, K = k + 1 := ⟨_, rfl⟩
    by_cases g0 : c = 0 ∧ 0 < k
    · rw [if_pos g0] at hN
      have hRR : Hid (R = .bad 4) := hN.out.symm
      obtain ⟨rfl, hk0⟩ := g0
      have hdis : k < 9 ∨ (k = 9 ∧ ¬ 1 < 0) := by omega
      clear hN hbig q1 hk19
      rcases hdis with hk | ⟨rfl, hc1⟩
      all_goals go_upto_region 10 with fail
      all_goals try (rcases hc with rfl | rfl | rfl | rfl | rfl | rfl | rfl | rfl | rfl | rfl)
      all_goals first | (exfalso; omega) | skip
      all_goals
        replace hor := hor.out
        simp only [Nat.reducePow, Int.cast_ofNat_Int] at hor
        go_wp2_with fail
        all_goals first | (go_returns; exact ⟨rfl, by rw [hRR.out]; rfl⟩)
    rw [if_neg g0] at hN
    rw [← hK] at hN
    have hRR : Hid (R = .ok A K) := hN.out.symm
    replace hK := hid hK
    have hq : (k = 0) ∨ (0 < k ∧ 0 < c) := by omega
    have hdis : k < 9 ∨ (k = 9 ∧ ¬ 1 < c) := by omega
    clear hN hbig q1 hk19 g0
    have e2 : IntKind.i64.wrap ((p : Int) + (k : Int) + 1) = (p : Int) + (k : Int) + 1 := IntWalk.i64_in _ (by omega)
    rcases hdis with hk | ⟨rfl, hc1⟩
    all_goals go_upto_region 10 with fail
    all_goals try (rcases hc with rfl | rfl | rfl | rfl | rfl | rfl | rfl | rfl | rfl | rfl)
    all_goals first | (exfalso; omega) | skip
    all_goals
      replace hor := hor.out
      simp only [Nat.reducePow, Int.mul_one, Int.cast_ofNat_Int] at hor
      try (have hcp : 0 < c := by omega)
      clear hq
      go_wp2_with fail
      all_goals (go_returns; refine ⟨rfl, ?_⟩; rw [hRR.out]; simp only; rw [hK.out]; (simp; try omega))

/-- What chunk tells. -/
def RTxt (R : Got ByteArray) (p : Nat) (w : World) (e : Ending) (w' : World) : Prop := Below w.heap.size w w' ∧ match R with
  | .bad c => e = .returned (.tuple #[.string ByteArray.empty, .int .i64 0, .int .i64 c])
  | .ok s k => e = .returned (.tuple #[.string s, .int .i64 ((p + k : Nat) : Int), .int .i64 0])

set_option maxRecDepth 100000 in
set_option maxHeartbeats 1000000 in
theorem chunk_calls {w : World} {bv : Value} {l : List UInt8} (hb : BytesAt w (Now w) l bv) (hl : l.length ≤ 35184372088832) (p : Nat) (hp : p ≤ l.length) (n : Nat) (hn : n < 18446744073709551616) :
    Calls Tryd.prog 104 #[bv, .int .i64 p, .int .u64 n] w (RTxt (txtR n (l.drop p)) p w) := by
  obtain ⟨R, hR⟩ : ∃ R, R = txtR n (l.drop p) := ⟨_, rfl⟩
  rw [← hR]
  unfold txtR at hR
  rw [List.length_drop] at hR
  have hb0 := hid hb
  obtain ⟨a, cap, rfl, hc1, hc2, hcell⟩ := hb
  clear hcell
  have e1 : IntKind.i64.wrap ((l.length : Int) - (p : Int)) = (l.length : Int) - p := IntWalk.i64_in _ (by omega)
  have e2 : IntKind.u64.wrap ((l.length : Int) - (p : Int)) = (l.length : Int) - p := by rw [IntKind.wrap_u64]; omega
  by_cases hlt : l.length - p < n
  · rw [if_pos hlt] at hR
    subst hR
    have d1 : (l.length : Int) - (p : Int) < (n : Int) := by omega
    go_enter Tryd.func104, Tryd.ntmps104
    go_wp2_with fail
    go_returns
    exact ⟨Below.refl _ _, rfl⟩
  rw [if_neg hlt] at hR
  have d1 : ¬ ((l.length : Int) - (p : Int) < (n : Int)) := by omega
  have e3 : IntKind.i64.wrap (n : Int) = n := IntWalk.i64_in _ (by omega)
  have e4 : IntKind.i64.wrap ((p : Int) + (n : Int)) = (p : Int) + (n : Int) := IntWalk.i64_in _ (by omega)
  obtain ⟨X, hX⟩ : ∃ X : ByteArray, X = ⟨((l.drop p).take n).toArray⟩ := ⟨_, rfl⟩
  obtain ⟨A, hif⟩ : ∃ A, (if cap = p then a else Option.map (fun x => x.add p) a) = A := ⟨_, rfl⟩
  have hcv : (convert 26 9 (.slice A n (cap - p))).run Tryd.prog w = .ok (.string X) w := by
    have := conv_part (p := p) (n := n) hb0.out (by omega)
    rw [← hX, sliced, Nat.mul_one, show p + n - p = n by omega, hif] at this
    exact this
  rw [← hX] at hR
  have hX1 : X.data.toList = (l.drop p).take n := by rw [hX]
  have hXs : X.size ≤ 35184372088832 := by
    have : X.data.toList.length = X.size := by simp
    rw [hX1, List.length_take, List.length_drop] at this
    omega
  replace hX := hid hX
  have hu : utf X = Lib.validD ((l.drop p).take n) := by unfold utf; rw [hX1]
  rw [← hu] at hR
  have hv := hid (rvalid_calls X hXs)
  have f1 : (p : Int) ≤ (p : Int) + (n : Int) := by omega
  have f2 : (p : Int) + (n : Int) ≤ (cap : Int) := by omega
  have f3 : ((p : Int) + (n : Int)).toNat = p + n := by omega
  clear hX1 hXs hu hlt
  cases hV : utf X with
  | false =>
    rw [hV] at hv hR
    replace hR : R = .bad 11 := hR
    subst hR
    replace hV := hid hV
    go_enter Tryd.func104, Tryd.ntmps104
    go_wp2_with fail
    refine (hv.out _).mono ?_
    rintro e w4 ⟨rfl, h4⟩
    go_wp2_with fail
    go_returns
    exact ⟨h4, rfl⟩
  | true =>
    rw [hV] at hv hR
    replace hR : R = .ok X n := hR
    subst hR
    replace hV := hid hV
    go_enter Tryd.func104, Tryd.ntmps104
    go_wp2_with fail
    refine (hv.out _).mono ?_
    rintro e w4 ⟨rfl, h4⟩
    go_wp2_with fail
    go_returns
    exact ⟨h4, rfl⟩
end Go.Proofs.YtihcegakghmdfaaDoor
