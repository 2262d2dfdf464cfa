/-
  Walk: codec.Take.
-/
import Derived.Test.YtihcegakghmdfaaDoorMgEnc1
import Derived.Test.YtihcegakghmdfaaDoorMgCpy
namespace Go.Proofs.YtihcegakghmdfaaDoor
open Go.RowKit Go.Proofs

set_option maxRecDepth 100000 in
theorem take_idle (a b c : Value) (w : World) :
    CallsD Tryd.prog 69 #[a, b, c] .returning w fun e u' w' => e = .returned (.tuple #[]) ∧ u' = .returning ∧ w' = w := by
  refine callsD_of_wpS Tryd.func69 rfl fun c₀ cs hu => ?_
  apply wpS_seq
  apply wpS_region
  simp [wpOpsS, go_sem, recoverD, hu, Tryd.ntmps69, Exit.thenS]
  refine wpS_of_wp ?_
  go_wp2_with fail
  cases c₀
  simp_all [bodyPostS, results, Tryd.results69]

theorem Out3.save {w w' : World} {B g : Nat} {a : Array Value} {x y : Value} (h : Out3 w B a x y) (hs : Save g w w') (h0 : B ≠ g) (h1 : B + 1 ≠ g) (h2 : B + 2 ≠ g) (hsz : B + 2 < w.heap.size) : Out3 w' B a x y :=
  ⟨(hs.block _ (by omega) h0).trans h.r0, (hs.block _ (by omega) h1).trans h.r1, (hs.block _ (by omega) h2).trans h.r2⟩
theorem Out3.set {w : World} {B : Nat} {v0 v1 v2 v3 v4 x y : Value} (h : Out3 w B #[v0, v1, v2, v3, v4] x y) (u0 u1 u2 u3 u4 : Value) : Out3 (set5 w B u0 u1 u2 u3 u4) B #[u0, u1, u2, u3, u4] x y :=
  ⟨set5_box h.r0, (set5_other _ _ _ _ _ _ _ (by omega)).trans h.r1, (set5_other _ _ _ _ _ _ _ (by omega)).trans h.r2⟩
theorem val_end {l : List UInt8} (p : Nat) (hp : p ≤ l.length) {V : PVal} {n : Nat} (h : valR 8 (l.drop p) = .ok V n) : p + n ≤ l.length := by
  have := (val_is 8 _ _ _ h).2.le
  rw [List.length_drop] at this
  omega
theorem Out3.set1 {w : World} {B : Nat} {a : Array Value} {x y : Value} (h : Out3 w B a x y) (u : Value) : Out3 (w.setCell ⟨B + 1, 0, none⟩ u) B a u y :=
  ⟨(Below.heap_setCell _ _ _ _ (by simp)).trans h.r0, (row_setCell (cs := #[x]) (t := 3) h.r1 : _), (Below.heap_setCell _ _ _ _ (by simp)).trans h.r2⟩
theorem Out3.set2 {w : World} {B : Nat} {a : Array Value} {x y : Value} (h : Out3 w B a x y) (u : Value) : Out3 (w.setCell ⟨B + 2, 0, none⟩ u) B a x u :=
  ⟨(Below.heap_setCell _ _ _ _ (by simp)).trans h.r0, (Below.heap_setCell _ _ _ _ (by simp)).trans h.r1, (row_setCell (cs := #[y]) (t := 28) h.r2 : _)⟩
theorem Out3.later {w w' : World} {B : Nat} {a : Array Value} {x y : Value} (h : Out3 w B a x y) (hb : Below w.heap.size w w') : Out3 w' B a x y :=
  ⟨(hb.block _ (lt_of_block h.r0)).trans h.r0, (hb.block _ (lt_of_block h.r1)).trans h.r1, (hb.block _ (lt_of_block h.r2)).trans h.r2⟩
/-- What the last region of Take reads beside the value. -/
def TkS (g : Nat) (z : Value) (w' : World) : Prop := w'.cell? ⟨g, 1, none⟩ = some z
theorem tkS_mk {w w' : World} {g : Nat} {z x : Value} {u : TypeId} (hg : w.heap[g]? = some (.cells #[x, z] u (0, 0))) (h2 : w'.heap[g]? = w.heap[g]?) : TkS g z w' := box_at (h2.trans hg) rfl
/-- What a value at a place is; no place: an argument that may not be. -/
def takeAt (l : List UInt8) (z : Int) : Got PVal := if z < 0 ∨ (l.length : Int) < z then .bad 1 else takeR (l.drop z.toNat)
/-- What Take tells. -/
def Taken (R : Got PVal) (z : Int) (w : World) (e : Ending) (w' : World) : Prop :=
  Below w.heap.size w w' ∧ match R with
    | .bad c => e = .returned (.tuple #[.agg none5, .int .i64 0, .int .i64 c])
    | .ok V n => ∃ cs, e = .returned (.tuple #[.agg cs.toArray, .int .i64 (z + n), .int .i64 0]) ∧ Rd w' (From w.heap.size w') V cs

set_option maxRecDepth 100000 in
set_option maxHeartbeats 4000000 in
theorem take_calls {w : World} {bv : Value} {l : List UInt8} (hb : BytesAt w (Now w) l bv) (hT : Tabs w) (hl : l.length ≤ 140737488355328) (z : Int) (hz : I64 z) :
    Calls Tryd.prog 28 #[bv, .int .i64 z] w (Taken (takeAt l z) z w) := by
  obtain ⟨R, hR⟩ : ∃ R, R = takeAt l z := ⟨_, rfl⟩
  rw [← hR]
  unfold takeAt at hR
  have hmf : ∀ (fn : Fn) (first cap : Array Value) (w : World), (Instr.makeFunc fn first cap).run Tryd.prog w = .ok (.func fn first cap) w := fun _ _ _ _ => rfl
  have hb0 := hid hb
  obtain ⟨a, cap, rfl, hc1, hc2, _⟩ := hb
  have hT0 := hid hT
  clear hT
  have hcp := hid copy_calls
  have hmy := hid must_yes
  have hmn := hid must_no
  by_cases hneg : z < 0
  · rw [if_pos (.inl hneg)] at hR
    subst hR
    go_enter_defers Tryd.func28, Tryd.ntmps28
    go_wp2_with fail
    simp [bodyPostD, Leaves, results, Tryd.results28, go_sem]
    exact ⟨((below_new _ _).step (below_new _ _)).step (below_new _ _), rfl⟩
  by_cases hbig : (l.length : Int) < z
  · rw [if_pos (.inr hbig)] at hR
    subst hR
    go_enter_defers Tryd.func28, Tryd.ntmps28
    go_wp2_with fail
    simp [bodyPostD, Leaves, results, Tryd.results28, go_sem]
    exact ⟨((below_new _ _).step (below_new _ _)).step (below_new _ _), rfl⟩
  rw [if_neg (by omega)] at hR
  obtain ⟨p, rfl⟩ := Int.eq_ofNat_of_zero_le (Int.not_lt.1 hneg)
  have hp : p ≤ l.length := by omega
  rw [Int.toNat_natCast] at hR
  have g1 : ¬ ((p : Int) < 0) := hneg
  have g2 : ¬ ((l.length : Int) < (p : Int)) := hbig
  obtain ⟨R0, hR0⟩ : ∃ R0, R0 = valR 8 (l.drop p) := ⟨_, rfl⟩
  unfold takeR at hR
  rw [← hR0] at hR
  obtain ⟨W4, hW4⟩ : ∃ W4, W4 = (((w.alloc (.cells #[.int .i64 0, .int .i64 0, .string ⟨#[]⟩, .slice none 0 0, .slice none 0 0] 25)).alloc (.cells #[.int .i64 0] 3)).alloc (.cells #[.int .i64 0] 28)).alloc (.cells #[.slice a l.length cap, .int .i64 (p : Int)] 101) := ⟨_, rfl⟩
  have hb4 : Hid (Below w.heap.size w W4) := by show Below _ _ _; rw [hW4]; exact (((below_new _ _).step (below_new _ _)).step (below_new _ _)).step (below_new _ _)
  have ho4 : Hid (Out3 W4 w.heap.size #[.int .i64 0, .int .i64 0, .string ⟨#[]⟩, .slice none 0 0, .slice none 0 0] (.int .i64 0) (.int .i64 0)) := by
    rw [hW4]
    exact ⟨al_old (al_old (al_old (al_at rfl))), al_old (al_old (al_at (by simp))), al_old (al_at (by simp))⟩
  have hat : Hid (At W4 (w.heap.size + 1 + 1 + 1) (.slice a l.length cap) l p) :=
    ⟨by rw [hW4]; exact al_at (by simp), hb0.out.keep (fun b hb => by have : b < w.heap.size := hb; omega) (fun b hb => hb4.out.block b hb), hp, hl⟩
  have htb : Hid (Tb (w.heap.size + 1 + 1 + 1) W4) := ⟨w, hT0.out, hb4.out, by omega⟩
  have hsz4 : Hid (W4.heap.size = w.heap.size + 1 + 1 + 1 + 1) := by show _ = _; rw [hW4]; simp
  have hval := hid (value_calls 8 0 rfl hat.out htb.out)
  rw [← hR0] at hval
  have hnle := hid (fun (V : PVal) (n : Nat) (h : R0 = .ok V n) => val_end p hp (hR0.symm.trans h))
  clear hR0 hneg hbig
  cases R0 with
  | bad c =>
    replace hR : R = .bad c := hR
    subst hR
    go_enter_defers Tryd.func28, Tryd.ntmps28
    go_wp2_with fail
    rw [← hW4]
    refine hval.out.mono ?_
    rintro e w5 ⟨hs5, rfl⟩
    go_wp2_with fail
    have ho5 := hid (ho4.out.save hs5 (by omega) (by omega) (by omega) (by have := hsz4.out; omega))
    refine leaves_cons (f := 69) (args := #[.pointer (some ⟨w.heap.size, 0, none⟩), .pointer (some ⟨w.heap.size + 1, 0, none⟩), .pointer (some ⟨w.heap.size + 1 + 1, 0, none⟩)]) (by simp) (by simp [go_sem]) ?_
    refine (take_caught w.heap.size c [] w5 _ _ _ _ _ _ _ ho5.out).mono ?_
    rintro e u' w6 ⟨rfl, rfl, hb6, ho6⟩
    have z0 := box_at (j := 0) ho6.r0 rfl
    have z1 := box_at (j := 1) ho6.r0 rfl
    have z2 := box_at (j := 2) ho6.r0 rfl
    have z3 := box_at (j := 3) ho6.r0 rfl
    have z4 := box_at (j := 4) ho6.r0 rfl
    have z5 := box_at (j := 0) ho6.r1 rfl
    have z6 := box_at (j := 0) ho6.r2 rfl
    simp [Leaves, settle, results, Tryd.results28, go_sem, z0, z1, z2, z3, z4, z5, z6]
    exact ⟨(hb4.out.trans (hs5.below (by omega) (by have := hsz4.out; omega))).trans hb6, rfl⟩
  | ok V n =>
    simp only at hR
    obtain ⟨kk, kn, ks, kl, kfn, kfv⟩ := V
    have hgl : Hid (w.heap.size + 1 + 1 + 1 < W4.heap.size) := by show _ < _; have := hsz4.out; omega
    have hn0 := hid (hnle.out _ _ rfl)
    by_cases hbg : 2048 < n
    · rw [if_pos hbg] at hR
      subst hR
      have e1 : IntKind.i64.wrap ((p : Int) + (n : Int) - (p : Int)) = (n : Int) := by rw [IntWalk.i64_in _ (by have := hn0.out; omega)]; omega
      have d1 : decide ((n : Int) ≤ 2048) = false := decide_eq_false (by omega)
      have d2 : decide (n ≤ 2048) = false := decide_eq_false (by omega)
      go_enter_defers Tryd.func28, Tryd.ntmps28
      go_wp2_with fail
      rw [← hW4]
      refine hval.out.mono ?_
      rintro e w5 ⟨hs5, v5, rfl, ⟨cs5, rfl, hr5⟩, ha5⟩
      obtain ⟨ka, kc, kf, kg, rfl, _⟩ := hr5.inv
      have ho5 := ho4.out.save hs5 (by omega) (by omega) (by omega) (by have := hsz4.out; omega)
      have c00 := box_at (j := 0) ho5.r0 rfl
      have c01 := box_at (j := 1) ho5.r0 rfl
      have c02 := box_at (j := 2) ho5.r0 rfl
      have c03 := box_at (j := 3) ho5.r0 rfl
      have c04 := box_at (j := 4) ho5.r0 rfl
      have f0 := box_free ho5.r0
      have ho7 := hid (ho5.set (.int .i64 kk) (.int .i64 kn) (.string ks) (.slice ka kl.length kc) (.slice kf kfv.length kg))
      have hb7 := hid (set5_below (hb4.out.trans (hs5.below (by omega) hgl.out)) (Nat.le_refl _) (.int .i64 kk) (.int .i64 kn) (.string ks) (.slice ka kl.length kc) (.slice kf kfv.length kg))
      have hrg := hid ((set5_other w5 w.heap.size (.int .i64 kk) (.int .i64 kn) (.string ks) (.slice ka kl.length kc) (.slice kf kfv.length kg) (by omega : w.heap.size + 1 + 1 + 1 ≠ w.heap.size)).trans ha5.row)
      have hr7 : Hid (Rd (set5 w5 w.heap.size (.int .i64 kk) (.int .i64 kn) (.string ks) (.slice ka kl.length kc) (.slice kf kfv.length kg)) (Now (set5 w5 w.heap.size (.int .i64 kk) (.int .i64 kn) (.string ks) (.slice ka kl.length kc) (.slice kf kfv.length kg))) (.mk kk kn ks kl kfn kfv) [.int .i64 kk, .int .i64 kn, .string ks, .slice ka kl.length kc, .slice kf kfv.length kg]) :=
        hr5.keep (fun b hb => by show b < _; rw [set5_size]; exact hb.2) (fun b hb => set5_other _ _ _ _ _ _ _ (by have := hb.1; have := hsz4.out; omega))
      clear ho5 hr5 ha5 hs5
      go_upto_region 6 with fail
      unfold set5 at ho7 hb7 hrg hr7
      generalize ((((w5.setCell ⟨w.heap.size, 0, none⟩ (.int .i64 kk)).setCell ⟨w.heap.size, 1, none⟩ (.int .i64 kn)).setCell ⟨w.heap.size, 2, none⟩ (.string ks)).setCell ⟨w.heap.size, 3, none⟩ (.slice ka kl.length kc)).setCell ⟨w.heap.size, 4, none⟩ (.slice kf kfv.length kg) = w7 at *
      clear c00 c01 c02 c03 c04 f0
      have c1 := box_at (j := 1) hrg.out rfl
      go_wp2_with fail
      refine (hmn.out _ _).mono ?_
      rintro e w8 ⟨rfl, rfl⟩
      go_wp2_with fail
      refine leaves_cons (f := 69) (args := #[.pointer (some ⟨w.heap.size, 0, none⟩), .pointer (some ⟨w.heap.size + 1, 0, none⟩), .pointer (some ⟨w.heap.size + 1 + 1, 0, none⟩)]) (by simp) (by simp [go_sem]) ?_
      refine (take_caught w.heap.size 2 [] w7 _ _ _ _ _ _ _ ho7.out).mono ?_
      rintro e u' w6 ⟨rfl, rfl, hb6, ho6⟩
      have z0 := box_at (j := 0) ho6.r0 rfl
      have z1 := box_at (j := 1) ho6.r0 rfl
      have z2 := box_at (j := 2) ho6.r0 rfl
      have z3 := box_at (j := 3) ho6.r0 rfl
      have z4 := box_at (j := 4) ho6.r0 rfl
      have z5 := box_at (j := 0) ho6.r1 rfl
      have z6 := box_at (j := 0) ho6.r2 rfl
      simp [Leaves, settle, results, Tryd.results28, go_sem, z0, z1, z2, z3, z4, z5, z6]
      exact ⟨hb7.out.trans hb6, rfl⟩
    · rw [if_neg hbg] at hR
      subst hR
      have e1 : IntKind.i64.wrap ((p : Int) + (n : Int) - (p : Int)) = (n : Int) := by rw [IntWalk.i64_in _ (by have := hn0.out; omega)]; omega
      have d1 : decide ((n : Int) ≤ 2048) = true := decide_eq_true (by omega)
      have d2 : decide (n ≤ 2048) = true := decide_eq_true (by omega)
      go_enter_defers Tryd.func28, Tryd.ntmps28
      go_wp2_with fail
      rw [← hW4]
      refine hval.out.mono ?_
      rintro e w5 ⟨hs5, v5, rfl, ⟨cs5, rfl, hr5⟩, ha5⟩
      obtain ⟨ka, kc, kf, kg, rfl, _⟩ := hr5.inv
      have ho5 := ho4.out.save hs5 (by omega) (by omega) (by omega) (by have := hsz4.out; omega)
      have c00 := box_at (j := 0) ho5.r0 rfl
      have c01 := box_at (j := 1) ho5.r0 rfl
      have c02 := box_at (j := 2) ho5.r0 rfl
      have c03 := box_at (j := 3) ho5.r0 rfl
      have c04 := box_at (j := 4) ho5.r0 rfl
      have f0 := box_free ho5.r0
      have ho7 := hid (ho5.set (.int .i64 kk) (.int .i64 kn) (.string ks) (.slice ka kl.length kc) (.slice kf kfv.length kg))
      have hb7 := hid (set5_below (hb4.out.trans (hs5.below (by omega) hgl.out)) (Nat.le_refl _) (.int .i64 kk) (.int .i64 kn) (.string ks) (.slice ka kl.length kc) (.slice kf kfv.length kg))
      have hrg := hid ((set5_other w5 w.heap.size (.int .i64 kk) (.int .i64 kn) (.string ks) (.slice ka kl.length kc) (.slice kf kfv.length kg) (by omega : w.heap.size + 1 + 1 + 1 ≠ w.heap.size)).trans ha5.row)
      have hr7 : Hid (Rd (set5 w5 w.heap.size (.int .i64 kk) (.int .i64 kn) (.string ks) (.slice ka kl.length kc) (.slice kf kfv.length kg)) (Now (set5 w5 w.heap.size (.int .i64 kk) (.int .i64 kn) (.string ks) (.slice ka kl.length kc) (.slice kf kfv.length kg))) (.mk kk kn ks kl kfn kfv) [.int .i64 kk, .int .i64 kn, .string ks, .slice ka kl.length kc, .slice kf kfv.length kg]) :=
        hr5.keep (fun b hb => by show b < _; rw [set5_size]; exact hb.2) (fun b hb => set5_other _ _ _ _ _ _ _ (by have := hb.1; have := hsz4.out; omega))
      clear ho5 hr5 ha5 hs5
      go_upto_region 6 with fail
      unfold set5 at ho7 hb7 hrg hr7
      generalize ((((w5.setCell ⟨w.heap.size, 0, none⟩ (.int .i64 kk)).setCell ⟨w.heap.size, 1, none⟩ (.int .i64 kn)).setCell ⟨w.heap.size, 2, none⟩ (.string ks)).setCell ⟨w.heap.size, 3, none⟩ (.slice ka kl.length kc)).setCell ⟨w.heap.size, 4, none⟩ (.slice kf kfv.length kg) = w7 at *
      clear c00 c01 c02 c03 c04 f0
      have c1 := box_at (j := 1) hrg.out rfl
      go_wp2_with fail
      refine (hmy.out _ _).mono ?_
      rintro e w8 ⟨rfl, rfl⟩
      go_upto_region 7 with fail
      clear c1
      have q0 : Hid (w.heap.size < w7.heap.size) := lt_of_block ho7.out.r0
      have q3 : Hid (w.heap.size + 1 + 1 + 1 < w7.heap.size) := lt_of_block hrg.out
      have hrg2 : Hid (w7.heap[w.heap.size + 1 + 1 + 1]? = some (.cells #[.slice a l.length cap, .int .i64 ((p : Int) + (n : Int))] 101 (0, 0))) := by show _ = _; rw [hrg.out]; rfl
      refine wp_region_noPanic ?_
      refine wp_region_T (TkS (w.heap.size + 1 + 1 + 1) (.int .i64 ((p : Int) + (n : Int)))) 7 (by kernel_rfl) ?_
      have hS0 : TkS (w.heap.size + 1 + 1 + 1) (.int .i64 ((p : Int) + (n : Int))) w7.drew := tkS_mk hrg2.out rfl
      ((refine wpAnyT_take (i := 2) (v := ?_) rfl (by kernel_rfl) (by kernel_rfl) (by kernel_rfl) (by kernel_rfl) (by exact fun _ _ _ h => h) (Or.inl ⟨by rfl, ?_⟩) hS0 ?_; rotate_left 1; focus (intro w hSw; unfold TkS at hSw; (try dsimp only at hSw); go_simp; try with_reducible rfl); (try simp only [List.getElem_toArray, List.getElem_cons_zero, List.getElem_cons_succ, Act.put, List.setIfInBounds_toArray, List.set_cons_zero, List.set_cons_succ])); (refine wpAnyT_take (i := 3) (v := ?_) rfl (by kernel_rfl) (by kernel_rfl) (by kernel_rfl) (by kernel_rfl) (by exact fun _ _ _ h => h) (Or.inl ⟨by rfl, ?_⟩) hS0 ?_; rotate_left 1; focus (intro w hSw; unfold TkS at hSw; (try dsimp only at hSw); go_simp; try with_reducible rfl); (try simp only [List.getElem_toArray, List.getElem_cons_zero, List.getElem_cons_succ, Act.put, List.setIfInBounds_toArray, List.set_cons_zero, List.set_cons_succ])); (refine wpAnyT_take (i := 4) (v := ?_) rfl (by kernel_rfl) (by kernel_rfl) (by kernel_rfl) (by kernel_rfl) (by exact fun _ _ _ h => h) (Or.inl ⟨by rfl, ?_⟩) hS0 ?_; rotate_left 1; focus (intro w hSw; unfold TkS at hSw; (try dsimp only at hSw); go_simp; try with_reducible rfl); (try simp only [List.getElem_toArray, List.getElem_cons_zero, List.getElem_cons_succ, Act.put, List.setIfInBounds_toArray, List.set_cons_zero, List.set_cons_succ])); (refine wpAnyT_take (i := 5) (v := ?_) rfl (by kernel_rfl) (by kernel_rfl) (by kernel_rfl) (by kernel_rfl) (by exact fun _ _ _ h => h) (Or.inl ⟨by rfl, ?_⟩) hS0 ?_; rotate_left 1; focus (intro w hSw; unfold TkS at hSw; (try dsimp only at hSw); go_simp; try with_reducible rfl); (try simp only [List.getElem_toArray, List.getElem_cons_zero, List.getElem_cons_succ, Act.put, List.setIfInBounds_toArray, List.set_cons_zero, List.set_cons_succ])))
      have c00 := box_at (j := 0) ho7.out.r0 rfl
      have c01 := box_at (j := 1) ho7.out.r0 rfl
      have c02 := box_at (j := 2) ho7.out.r0 rfl
      have c03 := box_at (j := 3) ho7.out.r0 rfl
      have c04 := box_at (j := 4) ho7.out.r0 rfl
      refine wpAnyT_one (i := 0) (by kernel_rfl) rfl (fun K hK => ?_)
      go_simp
      (refine hK.out _ _ (fun _ => hS0) (fun _ => ?_); clear hK K; (try simp only [Act.put, List.setIfInBounds_toArray, List.set_cons_zero, List.set_cons_succ]))
      clear hS0 c00 c01 c02 c03 c04
      refine wpAnyT_one (i := 1) (by kernel_rfl) rfl (fun K hK => ?_)
      go_simp
      refine (hcp.out _ w7.drew _ (hr7.out.later (Below.refl _ _).drew)).mono ?_
      rintro e w8 ⟨cs8, rfl, hr8, hb8⟩
      obtain ⟨ya, yc, za, zc, rfl, _⟩ := hr8.inv
      have hb8' := hid (show Below w7.heap.size w7 w8 from (Below.refl w7.heap.size w7).drew.trans hb8)
      have ho8 := hid (ho7.out.later hb8'.out)
      have hr9 := hid (hr8.keep (S' := fun b => w.heap.size + 3 ≤ b ∧ b < w8.heap.size) (fun b hb => ⟨by have : w7.heap.size ≤ b := hb.1; have := q3.out; omega, hb.2⟩) (fun _ _ => rfl))
      clear hb8 hr8
      (refine hK.out _ _ (fun _ => tkS_mk hrg2.out (hb8'.out.block _ q3.out)) (fun _ => ?_); clear hK K; (try simp only [Act.put, List.setIfInBounds_toArray, List.set_cons_zero, List.set_cons_succ]))
      have c00 := box_at (j := 0) ho8.out.r0 rfl
      have c01 := box_at (j := 1) ho8.out.r0 rfl
      have c02 := box_at (j := 2) ho8.out.r0 rfl
      have c03 := box_at (j := 3) ho8.out.r0 rfl
      have c04 := box_at (j := 4) ho8.out.r0 rfl
      have c05 := box_at (j := 0) ho8.out.r1 rfl
      have c06 := box_at (j := 0) ho8.out.r2 rfl
      have f0 := box_free ho8.out.r0
      have f1 := box_free ho8.out.r1 0
      have f2 := box_free ho8.out.r2 0
      refine wpAnyT_one (i := 6) (by kernel_rfl) rfl (fun K hK => ?_)
      go_simp
      (refine hK.out _ _ (fun _ => tkS_mk hrg2.out ((set5_other w8 w.heap.size (.int .i64 kk) (.int .i64 kn) (.string ks) (.slice ya kl.length yc) (.slice za kfv.length zc) (by omega : w.heap.size + 1 + 1 + 1 ≠ w.heap.size)).trans (hb8'.out.block _ q3.out))) (fun _ => ?_); clear hK K; (try simp only [Act.put, List.setIfInBounds_toArray]))
      refine wpAnyT_one (i := 7) (by kernel_rfl) rfl (fun K hK => ?_)
      go_simp
      (refine hK.out _ _ (fun h => absurd h (by decide)) (fun _ => ?_); clear hK K; (try simp only [Act.put, List.setIfInBounds_toArray]))
      refine wpAnyT_one (i := 8) (by kernel_rfl) rfl (fun K hK => ?_)
      go_simp
      (refine hK.out _ _ (fun h => absurd h (by decide)) (fun _ => ?_); clear hK K; (try simp only [Act.put, List.setIfInBounds_toArray]))
      refine wpAnyT_done (by kernel_rfl) (NoPanic.normal ?_) _
      have ho9 := hid (((ho8.out.set (.int .i64 kk) (.int .i64 kn) (.string ks) (.slice ya kl.length yc) (.slice za kfv.length zc)).set1 (.int .i64 ((p : Int) + (n : Int)))).set2 (.int .i64 0))
      have hb9 := hid (((set5_below (hb7.out.trans (hb8'.out.mono (Nat.le_of_lt q0.out))) (Nat.le_refl _) (.int .i64 kk) (.int .i64 kn) (.string ks) (.slice ya kl.length yc) (.slice za kfv.length zc)).setCell (p := ⟨w.heap.size + 1, 0, none⟩) (by simp) (.int .i64 ((p : Int) + (n : Int)))).setCell (p := ⟨w.heap.size + 2, 0, none⟩) (by simp) (.int .i64 0))
      have hr10 : Hid (Rd (((set5 w8 w.heap.size (.int .i64 kk) (.int .i64 kn) (.string ks) (.slice ya kl.length yc) (.slice za kfv.length zc)).setCell ⟨w.heap.size + 1, 0, none⟩ (.int .i64 ((p : Int) + (n : Int)))).setCell ⟨w.heap.size + 2, 0, none⟩ (.int .i64 0)) (From w.heap.size (((set5 w8 w.heap.size (.int .i64 kk) (.int .i64 kn) (.string ks) (.slice ya kl.length yc) (.slice za kfv.length zc)).setCell ⟨w.heap.size + 1, 0, none⟩ (.int .i64 ((p : Int) + (n : Int)))).setCell ⟨w.heap.size + 2, 0, none⟩ (.int .i64 0))) (.mk kk kn ks kl kfn kfv) [.int .i64 kk, .int .i64 kn, .string ks, .slice ya kl.length yc, .slice za kfv.length zc]) :=
        hr9.out.keep (fun b hb => ⟨by have := hb.1; omega, by have := hb.2; simpa [World.setCell, set5] using this⟩) (fun b hb => by
          have := hb.1
          rw [Below.heap_setCell _ _ _ _ (by simp; omega), Below.heap_setCell _ _ _ _ (by simp; omega)]
          exact set5_other _ _ _ _ _ _ _ (by omega))
      clear c00 c01 c02 c03 c04 c05 c06 f0 f1 f2
      unfold set5 at ho9 hb9 hr10
      rw [show w.heap.size + 2 = w.heap.size + 1 + 1 from rfl] at ho9 hb9 hr10
      generalize (((((((w8.setCell ⟨w.heap.size, 0, none⟩ (.int .i64 kk)).setCell ⟨w.heap.size, 1, none⟩ (.int .i64 kn)).setCell ⟨w.heap.size, 2, none⟩ (.string ks)).setCell ⟨w.heap.size, 3, none⟩ (.slice ya kl.length yc)).setCell ⟨w.heap.size, 4, none⟩ (.slice za kfv.length zc)).setCell ⟨w.heap.size + 1, 0, none⟩ (.int .i64 ((p : Int) + (n : Int)))).setCell ⟨w.heap.size + 1 + 1, 0, none⟩ (.int .i64 0)) = w9 at *
      go_wp2_with fail
      refine leaves_cons (f := 69) (args := #[.pointer (some ⟨w.heap.size, 0, none⟩), .pointer (some ⟨w.heap.size + 1, 0, none⟩), .pointer (some ⟨w.heap.size + 1 + 1, 0, none⟩)]) (by simp) (by simp [go_sem]) ?_
      refine (take_idle _ _ _ w9).mono ?_
      rintro e u' w10 ⟨rfl, rfl, rfl⟩
      have z0 := box_at (j := 0) ho9.out.r0 rfl
      have z1 := box_at (j := 1) ho9.out.r0 rfl
      have z2 := box_at (j := 2) ho9.out.r0 rfl
      have z3 := box_at (j := 3) ho9.out.r0 rfl
      have z4 := box_at (j := 4) ho9.out.r0 rfl
      have z5 := box_at (j := 0) ho9.out.r1 rfl
      have z6 := box_at (j := 0) ho9.out.r2 rfl
      simp [Leaves, settle, results, Tryd.results28, go_sem, z0, z1, z2, z3, z4, z5, z6]
      exact ⟨hb9.out, _, rfl, hr10.out⟩
end Go.Proofs.YtihcegakghmdfaaDoor
