/-
  Plain: what is wrong with bytes is told by a number above 0.
  Walks: the reader's value at whatever depth; caught; the deferred functions of Take and Number.
  Walk: codec.Take.
  Walks: codec.Number, Get.
  Walks: the reference's Number, chunk (of bytes).
-/
import Derived.Test.YtihcegakghmdfaaDoorMgVal14
import Derived.Test.YtihcegakghmdfaaDoorMgDec4
import Derived.Defers
import Derived.Recover
import Derived.Test.YtihcegakghmdfaaDoorMgHel
import Derived.Test.YtihcegakghmdfaaDoorMgDec1
import Derived.Test.YtihcegakghmdfaaDoorMgRef6
namespace Go.Proofs.YtihcegakghmdfaaDoor

theorem numR_pos : ∀ (l : List UInt8) (k acc : Nat) (c : Int), numR k acc l = .bad c → 0 < c
  | [], k, acc, c, h => by injection h with h; omega
  | d :: r, k, acc, c, h => by
    rw [numR] at h
    split at h
    · injection h with h; omega
    split at h
    · exact numR_pos r _ _ _ h
    split at h
    · injection h with h; omega
    · cases h
theorem txtR_pos {n : Nat} {l : List UInt8} {c : Int} (h : txtR n l = .bad c) : 0 < c := by
  unfold txtR at h
  split at h
  · injection h with h; omega
  split at h
  · injection h with h; omega
  · cases h
theorem strR_pos {a b : Nat} {e : Int} (he : 0 < e) {l : List UInt8} {c : Int} (h : strR a b e l = .bad c) : 0 < c := by
  unfold strR at h
  split at h
  · rename_i x hx
    injection h with h
    subst h
    exact numR_pos _ _ _ _ hx
  split at h
  · injection h with h; omega
  split at h
  · rename_i x hx
    injection h with h
    subst h
    exact txtR_pos hx
  · cases h
theorem listR_pos {p : List UInt8 → Got PVal} (hp : ∀ l c, p l = .bad c → 0 < c) : ∀ (n : Nat) (l : List UInt8) (c : Int), listR p n l = .bad c → 0 < c
  | 0, l, c, h => by cases h
  | n + 1, l, c, h => by
    rw [listR] at h
    split at h
    · rename_i x hx
      injection h with h
      subst h
      exact hp _ _ hx
    split at h
    · rename_i x hx
      injection h with h
      subst h
      exact listR_pos hp n _ _ hx
    · cases h
theorem fieldsR_pos {p : List UInt8 → Got PVal} (hp : ∀ l c, p l = .bad c → 0 < c) : ∀ (n : Nat) (last : ByteArray) (l : List UInt8) (c : Int), fieldsR p n last l = .bad c → 0 < c
  | 0, last, l, c, h => by cases h
  | n + 1, last, l, c, h => by
    rw [fieldsR] at h
    split at h
    · rename_i x hx
      injection h with h
      subst h
      exact strR_pos (by omega) hx
    split at h
    · injection h with h; omega
    split at h
    · rename_i x hx
      injection h with h
      subst h
      exact hp _ _ hx
    split at h
    · rename_i x hx
      injection h with h
      subst h
      exact fieldsR_pos hp n _ _ _ hx
    · cases h
theorem headR_pos {p : Option (List UInt8 → Got PVal)} (hp : ∀ q, p = some q → ∀ l c, q l = .bad c → 0 < c) {l : List UInt8} {c : Int} (h : headR p l = .bad c) : 0 < c := by
  cases l with
  | nil => injection h with h; omega
  | cons k r =>
    simp only [headR] at h
    split at h
    · cases h
    split at h
    · split at h
      · injection h with h; omega
      split at h
      · injection h with h; omega
      · cases h
    split at h
    · split at h
      · rename_i x hx
        injection h with h
        subst h
        exact numR_pos _ _ _ _ hx
      · cases h
    split at h
    · split at h
      · rename_i x hx
        injection h with h
        subst h
        exact strR_pos (by omega) hx
      · cases h
    split at h
    · split at h
      · injection h with h; omega
      split at h
      · rename_i x hx
        injection h with h
        subst h
        exact numR_pos _ _ _ _ hx
      split at h
      · injection h with h; omega
      split at h
      · rename_i x hx
        injection h with h
        subst h
        exact listR_pos (hp _ rfl) _ _ _ hx
      · cases h
    split at h
    · split at h
      · injection h with h; omega
      split at h
      · rename_i x hx
        injection h with h
        subst h
        exact numR_pos _ _ _ _ hx
      split at h
      · injection h with h; omega
      split at h
      · rename_i x hx
        injection h with h
        subst h
        exact fieldsR_pos (hp _ rfl) _ _ _ _ hx
      · cases h
    · injection h with h; omega
theorem valR_pos : ∀ (m : Nat) (l : List UInt8) (c : Int), valR m l = .bad c → 0 < c
  | 0, l, c, h => headR_pos (fun q hq => by cases hq) h
  | m + 1, l, c, h => headR_pos (fun q hq l c hl => by injection hq with hq; subst hq; exact valR_pos m l c hl) h
theorem takeR_pos {l : List UInt8} {c : Int} (h : takeR l = .bad c) : 0 < c := by
  unfold takeR at h
  split at h
  · rename_i x hx
    injection h with h
    subst h
    exact valR_pos _ _ _ hx
  split at h
  · injection h with h; omega
  · cases h
theorem getR_pos {l : List UInt8} {c : Int} (h : getR l = .bad c) : 0 < c := by
  unfold getR at h
  split at h
  · rename_i x hx
    injection h with h
    subst h
    exact takeR_pos hx
  split at h
  · injection h with h; omega
  · cases h
end Go.Proofs.YtihcegakghmdfaaDoor

namespace Go.Proofs.YtihcegakghmdfaaDoor
open Go.RowKit Go.Proofs

theorem value_calls {g : Nat} {bv : Value} {l : List UInt8} : ∀ (m d : Nat), d + m = 8 → ∀ {w : World} {p : Nat}, At w g bv l p → Tb g w →
    Calls Tryd.prog 71 #[.pointer (some ⟨g, 0, none⟩), .int .i64 d] w (Told (valR m (l.drop p)) (GiveV w.heap.size) w g bv l p)
  | 0, d, hd, _, _, h, hT => value_walk d none (.inl ⟨rfl, by omega⟩) h hT _ rfl
  | m + 1, d, hd, _, _, h, hT => value_walk d (some (valR m)) (.inr ⟨by omega, _, rfl, fun _ _ h' hT' => value_calls m (d + 1) (by omega) h' hT'⟩) h hT _ rfl

set_option maxRecDepth 100000 in
theorem caught_calls (c : Int) (w : World) : Calls Tryd.prog 70 #[.iface 28 (.int .i64 c)] w fun e w' => e = .returned (.int .i64 c) ∧ w = w' := by
  have hta : ∀ w : World, (Instr.typeAssert (.iface 28 (.int .i64 c)) 20 28 true).run Tryd.prog w = .ok (.tuple #[.int .i64 c, .bool true]) w := fun w => by rfl
  go_enter Tryd.func70, Tryd.ntmps70
  go_wp2_with fail
  go_returns
  exact ⟨rfl, rfl⟩

/-- The boxes of three results: a value, a number, an error. -/
structure Out3 (w : World) (B : Nat) (a : Array Value) (x y : Value) : Prop where
  r0 : w.heap[B]? = some (.cells a 25 (0, 0))
  r1 : w.heap[B + 1]? = some (.cells #[x] 3 (0, 0))
  r2 : w.heap[B + 2]? = some (.cells #[y] 28 (0, 0))
/-- A value's cells of none. -/
def none5 : Array Value := #[.int .i64 0, .int .i64 0, .string ByteArray.empty, .slice none 0 0, .slice none 0 0]

theorem Out3.clear {w : World} {B : Nat} {v0 v1 v2 v3 v4 x y : Value} (h : Out3 w B #[v0, v1, v2, v3, v4] x y) (c : Int) :
    Below B w (((set5 w B (.int .i64 0) (.int .i64 0) (.string ByteArray.empty) (.slice none 0 0) (.slice none 0 0)).setCell ⟨B + 1, 0, none⟩ (.int .i64 0)).setCell ⟨B + 2, 0, none⟩ (.int .i64 c)) ∧
      Out3 (((set5 w B (.int .i64 0) (.int .i64 0) (.string ByteArray.empty) (.slice none 0 0) (.slice none 0 0)).setCell ⟨B + 1, 0, none⟩ (.int .i64 0)).setCell ⟨B + 2, 0, none⟩ (.int .i64 c)) B none5 (.int .i64 0) (.int .i64 c) := by
  refine ⟨((set5_below (Below.refl B w) (Nat.le_refl _) _ _ _ _ _).setCell (p := ⟨B + 1, 0, none⟩) (by simp) _).setCell (p := ⟨B + 2, 0, none⟩) (by simp) _, ?_, ?_, ?_⟩
  · rw [Below.heap_setCell _ _ _ _ (by simp), Below.heap_setCell _ _ _ _ (by simp)]
    exact set5_box h.r0
  · rw [Below.heap_setCell _ _ _ _ (by simp)]
    exact row_setCell ((set5_other _ _ _ _ _ _ _ (by omega)).trans h.r1)
  · refine (row_setCell (cs := #[y]) (t := 28) ?_ : _)
    rw [Below.heap_setCell _ _ _ _ (by simp)]
    exact (set5_other _ _ _ _ _ _ _ (by omega)).trans h.r2

set_option maxRecDepth 100000 in
set_option maxHeartbeats 1000000 in
theorem take_caught (B : Nat) (c : Int) (older : List PanicEntry) (w : World) (v0 v1 v2 v3 v4 x y : Value) (h : Out3 w B #[v0, v1, v2, v3, v4] x y) :
    CallsD Tryd.prog 69 #[.pointer (some ⟨B, 0, none⟩), .pointer (some ⟨B + 1, 0, none⟩), .pointer (some ⟨B + 2, 0, none⟩)] (.panicking ({ v := .iface 28 (.int .i64 c), recovered := false } :: older)) w fun e u' w' =>
      e = .returned (.tuple #[]) ∧ u' = .panicking ({ v := .iface 28 (.int .i64 c), recovered := true } :: older) ∧ Below B w w' ∧ Out3 w' B none5 (.int .i64 0) (.int .i64 c) := by
  have c00 := box_at (j := 0) h.r0 rfl
  have c01 := box_at (j := 1) h.r0 rfl
  have c02 := box_at (j := 2) h.r0 rfl
  have c03 := box_at (j := 3) h.r0 rfl
  have c04 := box_at (j := 4) h.r0 rfl
  have c1 := box_at (j := 0) h.r1 rfl
  have c2 := box_at (j := 0) h.r2 rfl
  have f0 := box_free h.r0
  have f1 := box_free h.r1 0
  have f2 := box_free h.r2 0
  have hca := hid caught_calls
  refine callsD_of_wpS Tryd.func69 rfl fun c₀ cs hu => ?_
  apply wpS_seq
  apply wpS_region
  simp [wpOpsS, go_sem, recoverD, hu, Tryd.ntmps69, Exit.thenS]
  refine wpS_of_wp ?_
  go_wp2_with fail
  refine (hca.out _ _).mono ?_
  rintro e w1 ⟨rfl, rfl⟩
  go_wp2_with fail
  obtain ⟨hB, hO⟩ := h.clear c
  unfold set5 at hB hO
  cases c₀
  simp only at hu
  subst hu
  simp [bodyPostS, results, Tryd.results69]
  exact ⟨hB, hO⟩
end Go.Proofs.YtihcegakghmdfaaDoor

namespace Go.Proofs.YtihcegakghmdfaaDoor
open Go.RowKit Go.Proofs

set_option maxRecDepth 100000 in
theorem take_idle (a b c : Value) (w : World) :
    CallsD Tryd.prog 69 #[a, b, c] .returning w fun e u' w' => e = .returned (.tuple #[]) ∧ u' = .returning ∧ w' = w := by
  refine callsD_of_wpS Tryd.func69 rfl fun c₀ cs hu => ?_
  apply wpS_seq
  apply wpS_region
  simp [wpOpsS, go_sem, recoverD, hu, Tryd.ntmps69, Exit.thenS]
  refine wpS_of_wp ?_
  go_wp2_with fail
  cases c₀
  simp_all [bodyPostS, results, Tryd.results69]

theorem Out3.save {w w' : World} {B g : Nat} {a : Array Value} {x y : Value} (h : Out3 w B a x y) (hs : Save g w w') (h0 : B ≠ g) (h1 : B + 1 ≠ g) (h2 : B + 2 ≠ g) (hsz : B + 2 < w.heap.size) : Out3 w' B a x y :=
  ⟨(hs.block _ (by omega) h0).trans h.r0, (hs.block _ (by omega) h1).trans h.r1, (hs.block _ (by omega) h2).trans h.r2⟩
theorem Out3.set {w : World} {B : Nat} {v0 v1 v2 v3 v4 x y : Value} (h : Out3 w B #[v0, v1, v2, v3, v4] x y) (u0 u1 u2 u3 u4 : Value) : Out3 (set5 w B u0 u1 u2 u3 u4) B #[u0, u1, u2, u3, u4] x y :=
  ⟨set5_box h.r0, (set5_other _ _ _ _ _ _ _ (by omega)).trans h.r1, (set5_other _ _ _ _ _ _ _ (by omega)).trans h.r2⟩
theorem val_end {l : List UInt8} (p : Nat) (hp : p ≤ l.length) {V : PVal} {n : Nat} (h : valR 8 (l.drop p) = .ok V n) : p + n ≤ l.length := by
  have := (val_is 8 _ _ _ h).2.le
  rw [List.length_drop] at this
  omega
theorem Out3.set1 {w : World} {B : Nat} {a : Array Value} {x y : Value} (h : Out3 w B a x y) (u : Value) : Out3 (w.setCell ⟨B + 1, 0, none⟩ u) B a u y :=
  ⟨(Below.heap_setCell _ _ _ _ (by simp)).trans h.r0, (row_setCell (cs := #[x]) (t := 3) h.r1 : _), (Below.heap_setCell _ _ _ _ (by simp)).trans h.r2⟩
theorem Out3.set2 {w : World} {B : Nat} {a : Array Value} {x y : Value} (h : Out3 w B a x y) (u : Value) : Out3 (w.setCell ⟨B + 2, 0, none⟩ u) B a x u :=
  ⟨(Below.heap_setCell _ _ _ _ (by simp)).trans h.r0, (Below.heap_setCell _ _ _ _ (by simp)).trans h.r1, (row_setCell (cs := #[y]) (t := 28) h.r2 : _)⟩
theorem Out3.later {w w' : World} {B : Nat} {a : Array Value} {x y : Value} (h : Out3 w B a x y) (hb : Below w.heap.size w w') : Out3 w' B a x y :=
  ⟨(hb.block _ (lt_of_block h.r0)).trans h.r0, (hb.block _ (lt_of_block h.r1)).trans h.r1, (hb.block _ (lt_of_block h.r2)).trans h.r2⟩
/-- What the last region of Take reads beside the value. -/
def TkS (g : Nat) (z : Value) (w' : World) : Prop := w'.cell? ⟨g, 1, none⟩ = some z
theorem tkS_mk {w w' : World} {g : Nat} {z x : Value} {u : TypeId} (hg : w.heap[g]? = some (.cells #[x, z] u (0, 0))) (h2 : w'.heap[g]? = w.heap[g]?) : TkS g z w' := box_at (h2.trans hg) rfl
/-- What a value at a place is; no place: an argument that may not be. -/
def takeAt (l : List UInt8) (z : Int) : Got PVal := if z < 0 ∨ (l.length : Int) < z then .bad 1 else takeR (l.drop z.toNat)
/-- What Take tells. -/
def Taken (R : Got PVal) (z : Int) (w : World) (e : Ending) (w' : World) : Prop :=
  Below w.heap.size w w' ∧ match R with
    | .bad c => e = .returned (.tuple #[.agg none5, .int .i64 0, .int .i64 c])
    | .ok V n => ∃ cs, e = .returned (.tuple #[.agg cs.toArray, .int .i64 (z + n), .int .i64 0]) ∧ Rd w' (From w.heap.size w') V cs ∧ Thaw w.heap.size w' cs

set_option maxRecDepth 100000 in
set_option maxHeartbeats 4000000 in
theorem take_calls {w : World} {bv : Value} {l : List UInt8} (hb : BytesAt w (Now w) l bv) (hT : Tabs w) (hl : l.length ≤ 140737488355328) (z : Int) (hz : I64 z) :
    Calls Tryd.prog 28 #[bv, .int .i64 z] w (Taken (takeAt l z) z w) := by
  obtain ⟨R, hR⟩ : ∃ R, R = takeAt l z := ⟨_, rfl⟩
  rw [← hR]
  unfold takeAt at hR
  have hmf : ∀ (fn : Fn) (first cap : Array Value) (w : World), (Instr.makeFunc fn first cap).run Tryd.prog w = .ok (.func fn first cap) w := fun _ _ _ _ => rfl
  have hb0 := hid hb
  obtain ⟨a, cap, rfl, hc1, hc2, _⟩ := hb
  have hT0 := hid hT
  clear hT
  have hcp := hid copy_calls
  have hmy := hid must_yes
  have hmn := hid must_no
  by_cases hneg : z < 0
  · rw [if_pos (.inl hneg)] at hR
    subst hR
    go_enter_defers Tryd.func28, Tryd.ntmps28
    go_wp2_with fail
    simp [bodyPostD, Leaves, results, Tryd.results28, go_sem]
    exact ⟨((below_new _ _).step (below_new _ _)).step (below_new _ _), rfl⟩
  by_cases hbig : (l.length : Int) < z
  · rw [if_pos (.inr hbig)] at hR
    subst hR
    go_enter_defers Tryd.func28, Tryd.ntmps28
    go_wp2_with fail
    simp [bodyPostD, Leaves, results, Tryd.results28, go_sem]
    exact ⟨((below_new _ _).step (below_new _ _)).step (below_new _ _), rfl⟩
  rw [if_neg (by omega)] at hR
  obtain ⟨p, rfl⟩ := Int.eq_ofNat_of_zero_le (Int.not_lt.1 hneg)
  have hp : p ≤ l.length := by omega
  rw [Int.toNat_natCast] at hR
  have g1 : ¬ ((p : Int) < 0) := hneg
  have g2 : ¬ ((l.length : Int) < (p : Int)) := hbig
  obtain ⟨R0, hR0⟩ : ∃ R0, R0 = valR 8 (l.drop p) := ⟨_, rfl⟩
  unfold takeR at hR
  rw [← hR0] at hR
  obtain ⟨W4, hW4⟩ : ∃ W4, W4 = (((w.alloc (.cells #[.int .i64 0, .int .i64 0, .string ⟨#[]⟩, .slice none 0 0, .slice none 0 0] 25)).alloc (.cells #[.int .i64 0] 3)).alloc (.cells #[.int .i64 0] 28)).alloc (.cells #[.slice a l.length cap, .int .i64 (p : Int)] 101) := ⟨_, rfl⟩
  have hb4 : Hid (Below w.heap.size w W4) := by show Below _ _ _; rw [hW4]; exact (((below_new _ _).step (below_new _ _)).step (below_new _ _)).step (below_new _ _)
  have ho4 : Hid (Out3 W4 w.heap.size #[.int .i64 0, .int .i64 0, .string ⟨#[]⟩, .slice none 0 0, .slice none 0 0] (.int .i64 0) (.int .i64 0)) := by
    rw [hW4]
    exact ⟨al_old (al_old (al_old (al_at rfl))), al_old (al_old (al_at (by simp))), al_old (al_at (by simp))⟩
  have hat : Hid (At W4 (w.heap.size + 1 + 1 + 1) (.slice a l.length cap) l p) :=
    ⟨by rw [hW4]; exact al_at (by simp), hb0.out.keep (fun b hb => by have : b < w.heap.size := hb; omega) (fun b hb => hb4.out.block b hb), hp, hl⟩
  have htb : Hid (Tb (w.heap.size + 1 + 1 + 1) W4) := ⟨w, hT0.out, hb4.out, by omega⟩
  have hsz4 : Hid (W4.heap.size = w.heap.size + 1 + 1 + 1 + 1) := by show _ = _; rw [hW4]; simp
  have hval := hid (value_calls 8 0 rfl hat.out htb.out)
  rw [← hR0] at hval
  have hnle := hid (fun (V : PVal) (n : Nat) (h : R0 = .ok V n) => val_end p hp (hR0.symm.trans h))
  clear hR0 hneg hbig
  cases R0 with
  | bad c =>
    replace hR : R = .bad c := hR
    subst hR
    go_enter_defers Tryd.func28, Tryd.ntmps28
    go_wp2_with fail
    rw [← hW4]
    refine hval.out.mono ?_
    rintro e w5 ⟨hs5, rfl⟩
    go_wp2_with fail
    have ho5 := hid (ho4.out.save hs5 (by omega) (by omega) (by omega) (by have := hsz4.out; omega))
    refine leaves_cons (f := 69) (args := #[.pointer (some ⟨w.heap.size, 0, none⟩), .pointer (some ⟨w.heap.size + 1, 0, none⟩), .pointer (some ⟨w.heap.size + 1 + 1, 0, none⟩)]) (by simp) (by simp [go_sem]) ?_
    refine (take_caught w.heap.size c [] w5 _ _ _ _ _ _ _ ho5.out).mono ?_
    rintro e u' w6 ⟨rfl, rfl, hb6, ho6⟩
    have z0 := box_at (j := 0) ho6.r0 rfl
    have z1 := box_at (j := 1) ho6.r0 rfl
    have z2 := box_at (j := 2) ho6.r0 rfl
    have z3 := box_at (j := 3) ho6.r0 rfl
    have z4 := box_at (j := 4) ho6.r0 rfl
    have z5 := box_at (j := 0) ho6.r1 rfl
    have z6 := box_at (j := 0) ho6.r2 rfl
    simp [Leaves, settle, results, Tryd.results28, go_sem, z0, z1, z2, z3, z4, z5, z6]
    exact ⟨(hb4.out.trans (hs5.below (by omega) (by have := hsz4.out; omega))).trans hb6, rfl⟩
  | ok V n =>
    simp only at hR
    obtain ⟨kk, kn, ks, kl, kfn, kfv⟩ := V
    have hgl : Hid (w.heap.size + 1 + 1 + 1 < W4.heap.size) := by show _ < _; have := hsz4.out; omega
    have hn0 := hid (hnle.out _ _ rfl)
    by_cases hbg : 2048 < n
    · rw [if_pos hbg] at hR
      subst hR
      have e1 : IntKind.i64.wrap ((p : Int) + (n : Int) - (p : Int)) = (n : Int) := by rw [IntWalk.i64_in _ (by have := hn0.out; omega)]; omega
      have d1 : decide ((n : Int) ≤ 2048) = false := decide_eq_false (by omega)
      have d2 : decide (n ≤ 2048) = false := decide_eq_false (by omega)
      go_enter_defers Tryd.func28, Tryd.ntmps28
      go_wp2_with fail
      rw [← hW4]
      refine hval.out.mono ?_
      rintro e w5 ⟨hs5, v5, rfl, ⟨cs5, rfl, hr5⟩, ha5⟩
      obtain ⟨ka, kc, kf, kg, rfl, _⟩ := hr5.inv
      have ho5 := ho4.out.save hs5 (by omega) (by omega) (by omega) (by have := hsz4.out; omega)
      have c00 := box_at (j := 0) ho5.r0 rfl
      have c01 := box_at (j := 1) ho5.r0 rfl
      have c02 := box_at (j := 2) ho5.r0 rfl
      have c03 := box_at (j := 3) ho5.r0 rfl
      have c04 := box_at (j := 4) ho5.r0 rfl
      have f0 := box_free ho5.r0
      have ho7 := hid (ho5.set (.int .i64 kk) (.int .i64 kn) (.string ks) (.slice ka kl.length kc) (.slice kf kfv.length kg))
      have hb7 := hid (set5_below (hb4.out.trans (hs5.below (by omega) hgl.out)) (Nat.le_refl _) (.int .i64 kk) (.int .i64 kn) (.string ks) (.slice ka kl.length kc) (.slice kf kfv.length kg))
      have hrg := hid ((set5_other w5 w.heap.size (.int .i64 kk) (.int .i64 kn) (.string ks) (.slice ka kl.length kc) (.slice kf kfv.length kg) (by omega : w.heap.size + 1 + 1 + 1 ≠ w.heap.size)).trans ha5.row)
      have hr7 : Hid (Rd (set5 w5 w.heap.size (.int .i64 kk) (.int .i64 kn) (.string ks) (.slice ka kl.length kc) (.slice kf kfv.length kg)) (Now (set5 w5 w.heap.size (.int .i64 kk) (.int .i64 kn) (.string ks) (.slice ka kl.length kc) (.slice kf kfv.length kg))) (.mk kk kn ks kl kfn kfv) [.int .i64 kk, .int .i64 kn, .string ks, .slice ka kl.length kc, .slice kf kfv.length kg]) :=
        hr5.keep (fun b hb => by show b < _; rw [set5_size]; exact hb.2) (fun b hb => set5_other _ _ _ _ _ _ _ (by have := hb.1; have := hsz4.out; omega))
      clear ho5 hr5 ha5 hs5
      go_upto_region 6 with fail
      unfold set5 at ho7 hb7 hrg hr7
      generalize ((((w5.setCell ⟨w.heap.size, 0, none⟩ (.int .i64 kk)).setCell ⟨w.heap.size, 1, none⟩ (.int .i64 kn)).setCell ⟨w.heap.size, 2, none⟩ (.string ks)).setCell ⟨w.heap.size, 3, none⟩ (.slice ka kl.length kc)).setCell ⟨w.heap.size, 4, none⟩ (.slice kf kfv.length kg) = w7 at *
      clear c00 c01 c02 c03 c04 f0
      have c1 := box_at (j := 1) hrg.out rfl
      go_wp2_with fail
      refine (hmn.out _ _).mono ?_
      rintro e w8 ⟨rfl, rfl⟩
      go_wp2_with fail
      refine leaves_cons (f := 69) (args := #[.pointer (some ⟨w.heap.size, 0, none⟩), .pointer (some ⟨w.heap.size + 1, 0, none⟩), .pointer (some ⟨w.heap.size + 1 + 1, 0, none⟩)]) (by simp) (by simp [go_sem]) ?_
      refine (take_caught w.heap.size 2 [] w7 _ _ _ _ _ _ _ ho7.out).mono ?_
      rintro e u' w6 ⟨rfl, rfl, hb6, ho6⟩
      have z0 := box_at (j := 0) ho6.r0 rfl
      have z1 := box_at (j := 1) ho6.r0 rfl
      have z2 := box_at (j := 2) ho6.r0 rfl
      have z3 := box_at (j := 3) ho6.r0 rfl
      have z4 := box_at (j := 4) ho6.r0 rfl
      have z5 := box_at (j := 0) ho6.r1 rfl
      have z6 := box_at (j := 0) ho6.r2 rfl
      simp [Leaves, settle, results, Tryd.results28, go_sem, z0, z1, z2, z3, z4, z5, z6]
      exact ⟨hb7.out.trans hb6, rfl⟩
    · rw [if_neg hbg] at hR
      subst hR
      have e1 : IntKind.i64.wrap ((p : Int) + (n : Int) - (p : Int)) = (n : Int) := by rw [IntWalk.i64_in _ (by have := hn0.out; omega)]; omega
      have d1 : decide ((n : Int) ≤ 2048) = true := decide_eq_true (by omega)
      have d2 : decide (n ≤ 2048) = true := decide_eq_true (by omega)
      go_enter_defers Tryd.func28, Tryd.ntmps28
      go_wp2_with fail
      rw [← hW4]
      refine hval.out.mono ?_
      rintro e w5 ⟨hs5, v5, rfl, ⟨cs5, rfl, hr5⟩, ha5⟩
      obtain ⟨ka, kc, kf, kg, rfl, _⟩ := hr5.inv
      have ho5 := ho4.out.save hs5 (by omega) (by omega) (by omega) (by have := hsz4.out; omega)
      have c00 := box_at (j := 0) ho5.r0 rfl
      have c01 := box_at (j := 1) ho5.r0 rfl
      have c02 := box_at (j := 2) ho5.r0 rfl
      have c03 := box_at (j := 3) ho5.r0 rfl
      have c04 := box_at (j := 4) ho5.r0 rfl
      have f0 := box_free ho5.r0
      have ho7 := hid (ho5.set (.int .i64 kk) (.int .i64 kn) (.string ks) (.slice ka kl.length kc) (.slice kf kfv.length kg))
      have hb7 := hid (set5_below (hb4.out.trans (hs5.below (by omega) hgl.out)) (Nat.le_refl _) (.int .i64 kk) (.int .i64 kn) (.string ks) (.slice ka kl.length kc) (.slice kf kfv.length kg))
      have hrg := hid ((set5_other w5 w.heap.size (.int .i64 kk) (.int .i64 kn) (.string ks) (.slice ka kl.length kc) (.slice kf kfv.length kg) (by omega : w.heap.size + 1 + 1 + 1 ≠ w.heap.size)).trans ha5.row)
      have hr7 : Hid (Rd (set5 w5 w.heap.size (.int .i64 kk) (.int .i64 kn) (.string ks) (.slice ka kl.length kc) (.slice kf kfv.length kg)) (Now (set5 w5 w.heap.size (.int .i64 kk) (.int .i64 kn) (.string ks) (.slice ka kl.length kc) (.slice kf kfv.length kg))) (.mk kk kn ks kl kfn kfv) [.int .i64 kk, .int .i64 kn, .string ks, .slice ka kl.length kc, .slice kf kfv.length kg]) :=
        hr5.keep (fun b hb => by show b < _; rw [set5_size]; exact hb.2) (fun b hb => set5_other _ _ _ _ _ _ _ (by have := hb.1; have := hsz4.out; omega))
      clear ho5 hr5 ha5 hs5
      go_upto_region 6 with fail
      unfold set5 at ho7 hb7 hrg hr7
      generalize ((((w5.setCell ⟨w.heap.size, 0, none⟩ (.int .i64 kk)).setCell ⟨w.heap.size, 1, none⟩ (.int .i64 kn)).setCell ⟨w.heap.size, 2, none⟩ (.string ks)).setCell ⟨w.heap.size, 3, none⟩ (.slice ka kl.length kc)).setCell ⟨w.heap.size, 4, none⟩ (.slice kf kfv.length kg) = w7 at *
      clear c00 c01 c02 c03 c04 f0
      have c1 := box_at (j := 1) hrg.out rfl
      go_wp2_with fail
      refine (hmy.out _ _).mono ?_
      rintro e w8 ⟨rfl, rfl⟩
      go_upto_region 7 with fail
      clear c1
      have q0 : Hid (w.heap.size < w7.heap.size) := lt_of_block ho7.out.r0
      have q3 : Hid (w.heap.size + 1 + 1 + 1 < w7.heap.size) := lt_of_block hrg.out
      have hrg2 : Hid (w7.heap[w.heap.size + 1 + 1 + 1]? = some (.cells #[.slice a l.length cap, .int .i64 ((p : Int) + (n : Int))] 101 (0, 0))) := by show _ = _; rw [hrg.out]; rfl
      refine wp_region_noPanic ?_
      refine wp_region_T (TkS (w.heap.size + 1 + 1 + 1) (.int .i64 ((p : Int) + (n : Int)))) 7 (by kernel_rfl) ?_
      have hS0 : TkS (w.heap.size + 1 + 1 + 1) (.int .i64 ((p : Int) + (n : Int))) w7.drew := tkS_mk hrg2.out rfl
      ((refine wpAnyT_take (i := 2) (v := ?_) rfl (by kernel_rfl) (by kernel_rfl) (by kernel_rfl) (by kernel_rfl) (by exact fun _ _ _ h => h) (Or.inl ⟨by rfl, ?_⟩) hS0 ?_; rotate_left 1; focus (intro w hSw; unfold TkS at hSw; (try dsimp only at hSw); go_simp; try with_reducible rfl); (try simp only [List.getElem_toArray, List.getElem_cons_zero, List.getElem_cons_succ, Act.put, List.setIfInBounds_toArray, List.set_cons_zero, List.set_cons_succ])); (refine wpAnyT_take (i := 3) (v := ?_) rfl (by kernel_rfl) (by kernel_rfl) (by kernel_rfl) (by kernel_rfl) (by exact fun _ _ _ h => h) (Or.inl ⟨by rfl, ?_⟩) hS0 ?_; rotate_left 1; focus (intro w hSw; unfold TkS at hSw; (try dsimp only at hSw); go_simp; try with_reducible rfl); (try simp only [List.getElem_toArray, List.getElem_cons_zero, List.getElem_cons_succ, Act.put, List.setIfInBounds_toArray, List.set_cons_zero, List.set_cons_succ])); (refine wpAnyT_take (i := 4) (v := ?_) rfl (by kernel_rfl) (by kernel_rfl) (by kernel_rfl) (by kernel_rfl) (by exact fun _ _ _ h => h) (Or.inl ⟨by rfl, ?_⟩) hS0 ?_; rotate_left 1; focus (intro w hSw; unfold TkS at hSw; (try dsimp only at hSw); go_simp; try with_reducible rfl); (try simp only [List.getElem_toArray, List.getElem_cons_zero, List.getElem_cons_succ, Act.put, List.setIfInBounds_toArray, List.set_cons_zero, List.set_cons_succ])); (refine wpAnyT_take (i := 5) (v := ?_) rfl (by kernel_rfl) (by kernel_rfl) (by kernel_rfl) (by kernel_rfl) (by exact fun _ _ _ h => h) (Or.inl ⟨by rfl, ?_⟩) hS0 ?_; rotate_left 1; focus (intro w hSw; unfold TkS at hSw; (try dsimp only at hSw); go_simp; try with_reducible rfl); (try simp only [List.getElem_toArray, List.getElem_cons_zero, List.getElem_cons_succ, Act.put, List.setIfInBounds_toArray, List.set_cons_zero, List.set_cons_succ])))
      have c00 := box_at (j := 0) ho7.out.r0 rfl
      have c01 := box_at (j := 1) ho7.out.r0 rfl
      have c02 := box_at (j := 2) ho7.out.r0 rfl
      have c03 := box_at (j := 3) ho7.out.r0 rfl
      have c04 := box_at (j := 4) ho7.out.r0 rfl
      refine wpAnyT_one (i := 0) (by kernel_rfl) rfl (fun K hK => ?_)
      go_simp
      (refine hK.out _ _ (fun _ => hS0) (fun _ => ?_); clear hK K; (try simp only [Act.put, List.setIfInBounds_toArray, List.set_cons_zero, List.set_cons_succ]))
      clear hS0 c00 c01 c02 c03 c04
      refine wpAnyT_one (i := 1) (by kernel_rfl) rfl (fun K hK => ?_)
      go_simp
      refine (hcp.out _ w7.drew _ (hr7.out.later (Below.refl _ _).drew)).mono ?_
      rintro e w8 ⟨cs8, rfl, hr8, hb8, ht8⟩
      obtain ⟨ya, yc, za, zc, rfl, _⟩ := hr8.inv
      have hb8' := hid (show Below w7.heap.size w7 w8 from (Below.refl w7.heap.size w7).drew.trans hb8)
      have ho8 := hid (ho7.out.later hb8'.out)
      have hr9 := hid (hr8.keep (S' := fun b => w.heap.size + 3 ≤ b ∧ b < w8.heap.size) (fun b hb => ⟨by have : w7.heap.size ≤ b := hb.1; have := q3.out; omega, hb.2⟩) (fun _ _ => rfl))
      have hth9 := hid (Thaw.keep (B' := w.heap.size + 3) ht8 (by show w.heap.size + 3 ≤ w7.heap.size; have := q3.out; omega) (Nat.le_refl _) (fun _ _ _ => rfl))
      clear hb8 hr8 ht8
      (refine hK.out _ _ (fun _ => tkS_mk hrg2.out (hb8'.out.block _ q3.out)) (fun _ => ?_); clear hK K; (try simp only [Act.put, List.setIfInBounds_toArray, List.set_cons_zero, List.set_cons_succ]))
      have c00 := box_at (j := 0) ho8.out.r0 rfl
      have c01 := box_at (j := 1) ho8.out.r0 rfl
      have c02 := box_at (j := 2) ho8.out.r0 rfl
      have c03 := box_at (j := 3) ho8.out.r0 rfl
      have c04 := box_at (j := 4) ho8.out.r0 rfl
      have c05 := box_at (j := 0) ho8.out.r1 rfl
      have c06 := box_at (j := 0) ho8.out.r2 rfl
      have f0 := box_free ho8.out.r0
      have f1 := box_free ho8.out.r1 0
      have f2 := box_free ho8.out.r2 0
      refine wpAnyT_one (i := 6) (by kernel_rfl) rfl (fun K hK => ?_)
      go_simp
      (refine hK.out _ _ (fun _ => tkS_mk hrg2.out ((set5_other w8 w.heap.size (.int .i64 kk) (.int .i64 kn) (.string ks) (.slice ya kl.length yc) (.slice za kfv.length zc) (by omega : w.heap.size + 1 + 1 + 1 ≠ w.heap.size)).trans (hb8'.out.block _ q3.out))) (fun _ => ?_); clear hK K; (try simp only [Act.put, List.setIfInBounds_toArray]))
      refine wpAnyT_one (i := 7) (by kernel_rfl) rfl (fun K hK => ?_)
      go_simp
      (refine hK.out _ _ (fun h => absurd h (by decide)) (fun _ => ?_); clear hK K; (try simp only [Act.put, List.setIfInBounds_toArray]))
      refine wpAnyT_one (i := 8) (by kernel_rfl) rfl (fun K hK => ?_)
      go_simp
      (refine hK.out _ _ (fun h => absurd h (by decide)) (fun _ => ?_); clear hK K; (try simp only [Act.put, List.setIfInBounds_toArray]))
      refine wpAnyT_done (by kernel_rfl) (NoPanic.normal ?_) _
      have ho9 := hid (((ho8.out.set (.int .i64 kk) (.int .i64 kn) (.string ks) (.slice ya kl.length yc) (.slice za kfv.length zc)).set1 (.int .i64 ((p : Int) + (n : Int)))).set2 (.int .i64 0))
      have hb9 := hid (((set5_below (hb7.out.trans (hb8'.out.mono (Nat.le_of_lt q0.out))) (Nat.le_refl _) (.int .i64 kk) (.int .i64 kn) (.string ks) (.slice ya kl.length yc) (.slice za kfv.length zc)).setCell (p := ⟨w.heap.size + 1, 0, none⟩) (by simp) (.int .i64 ((p : Int) + (n : Int)))).setCell (p := ⟨w.heap.size + 2, 0, none⟩) (by simp) (.int .i64 0))
      have hr10 : Hid (Rd (((set5 w8 w.heap.size (.int .i64 kk) (.int .i64 kn) (.string ks) (.slice ya kl.length yc) (.slice za kfv.length zc)).setCell ⟨w.heap.size + 1, 0, none⟩ (.int .i64 ((p : Int) + (n : Int)))).setCell ⟨w.heap.size + 2, 0, none⟩ (.int .i64 0)) (From w.heap.size (((set5 w8 w.heap.size (.int .i64 kk) (.int .i64 kn) (.string ks) (.slice ya kl.length yc) (.slice za kfv.length zc)).setCell ⟨w.heap.size + 1, 0, none⟩ (.int .i64 ((p : Int) + (n : Int)))).setCell ⟨w.heap.size + 2, 0, none⟩ (.int .i64 0))) (.mk kk kn ks kl kfn kfv) [.int .i64 kk, .int .i64 kn, .string ks, .slice ya kl.length yc, .slice za kfv.length zc]) :=
        hr9.out.keep (fun b hb => ⟨by have := hb.1; omega, by have := hb.2; simpa [World.setCell, set5] using this⟩) (fun b hb => by
          have := hb.1
          rw [Below.heap_setCell _ _ _ _ (by simp; omega), Below.heap_setCell _ _ _ _ (by simp; omega)]
          exact set5_other _ _ _ _ _ _ _ (by omega))
      have hth10 : Hid (Thaw w.heap.size (((set5 w8 w.heap.size (.int .i64 kk) (.int .i64 kn) (.string ks) (.slice ya kl.length yc) (.slice za kfv.length zc)).setCell ⟨w.heap.size + 1, 0, none⟩ (.int .i64 ((p : Int) + (n : Int)))).setCell ⟨w.heap.size + 2, 0, none⟩ (.int .i64 0)) [.int .i64 kk, .int .i64 kn, .string ks, .slice ya kl.length yc, .slice za kfv.length zc]) :=
        hth9.out.keep (by omega) (by simp [World.setCell, set5]) (fun b hb _ => by
          rw [Below.heap_setCell _ _ _ _ (by simp; omega), Below.heap_setCell _ _ _ _ (by simp; omega)]
          exact set5_other _ _ _ _ _ _ _ (by omega))
      clear c00 c01 c02 c03 c04 c05 c06 f0 f1 f2
      unfold set5 at ho9 hb9 hr10 hth10
      rw [show w.heap.size + 2 = w.heap.size + 1 + 1 from rfl] at ho9 hb9 hr10 hth10
      generalize (((((((w8.setCell ⟨w.heap.size, 0, none⟩ (.int .i64 kk)).setCell ⟨w.heap.size, 1, none⟩ (.int .i64 kn)).setCell ⟨w.heap.size, 2, none⟩ (.string ks)).setCell ⟨w.heap.size, 3, none⟩ (.slice ya kl.length yc)).setCell ⟨w.heap.size, 4, none⟩ (.slice za kfv.length zc)).setCell ⟨w.heap.size + 1, 0, none⟩ (.int .i64 ((p : Int) + (n : Int)))).setCell ⟨w.heap.size + 1 + 1, 0, none⟩ (.int .i64 0)) = w9 at *
      go_wp2_with fail
      refine leaves_cons (f := 69) (args := #[.pointer (some ⟨w.heap.size, 0, none⟩), .pointer (some ⟨w.heap.size + 1, 0, none⟩), .pointer (some ⟨w.heap.size + 1 + 1, 0, none⟩)]) (by simp) (by simp [go_sem]) ?_
      refine (take_idle _ _ _ w9).mono ?_
      rintro e u' w10 ⟨rfl, rfl, rfl⟩
      have z0 := box_at (j := 0) ho9.out.r0 rfl
      have z1 := box_at (j := 1) ho9.out.r0 rfl
      have z2 := box_at (j := 2) ho9.out.r0 rfl
      have z3 := box_at (j := 3) ho9.out.r0 rfl
      have z4 := box_at (j := 4) ho9.out.r0 rfl
      have z5 := box_at (j := 0) ho9.out.r1 rfl
      have z6 := box_at (j := 0) ho9.out.r2 rfl
      simp [Leaves, settle, results, Tryd.results28, go_sem, z0, z1, z2, z3, z4, z5, z6]
      exact ⟨hb9.out, _, rfl, hr10.out, hth10.out⟩
end Go.Proofs.YtihcegakghmdfaaDoor

namespace Go.Proofs.YtihcegakghmdfaaDoor
open Go.RowKit Go.Proofs

/-- The boxes of three results: a number, a place, an error. -/
structure OutN (w : World) (B : Nat) (n x y : Value) : Prop where
  r0 : w.heap[B]? = some (.cells #[n] 74 (0, 0))
  r1 : w.heap[B + 1]? = some (.cells #[x] 3 (0, 0))
  r2 : w.heap[B + 2]? = some (.cells #[y] 28 (0, 0))
theorem OutN.save {w w' : World} {B g : Nat} {n x y : Value} (h : OutN w B n x y) (hs : Save g w w') (h0 : B ≠ g) (h1 : B + 1 ≠ g) (h2 : B + 2 ≠ g) (hsz : B + 2 < w.heap.size) : OutN w' B n x y :=
  ⟨(hs.block _ (by omega) h0).trans h.r0, (hs.block _ (by omega) h1).trans h.r1, (hs.block _ (by omega) h2).trans h.r2⟩
theorem OutN.set0 {w : World} {B : Nat} {n x y : Value} (h : OutN w B n x y) (u : Value) : OutN (w.setCell ⟨B, 0, none⟩ u) B u x y :=
  ⟨(row_setCell (cs := #[n]) (t := 74) h.r0 : _), (Below.heap_setCell _ _ _ _ (by simp)).trans h.r1, (Below.heap_setCell _ _ _ _ (by simp)).trans h.r2⟩
theorem OutN.set1 {w : World} {B : Nat} {n x y : Value} (h : OutN w B n x y) (u : Value) : OutN (w.setCell ⟨B + 1, 0, none⟩ u) B n u y :=
  ⟨(Below.heap_setCell _ _ _ _ (by simp)).trans h.r0, (row_setCell (cs := #[x]) (t := 3) h.r1 : _), (Below.heap_setCell _ _ _ _ (by simp)).trans h.r2⟩
theorem OutN.set2 {w : World} {B : Nat} {n x y : Value} (h : OutN w B n x y) (u : Value) : OutN (w.setCell ⟨B + 2, 0, none⟩ u) B n x u :=
  ⟨(Below.heap_setCell _ _ _ _ (by simp)).trans h.r0, (Below.heap_setCell _ _ _ _ (by simp)).trans h.r1, (row_setCell (cs := #[y]) (t := 28) h.r2 : _)⟩
theorem OutN.drew {w : World} {B : Nat} {n x y : Value} (h : OutN w B n x y) : OutN w.drew B n x y := ⟨h.r0, h.r1, h.r2⟩
theorem outN_below {a w : World} {B : Nat} (h : Below B a w) (u x y : Value) : Below B a (((w.setCell ⟨B, 0, none⟩ u).setCell ⟨B + 1, 0, none⟩ x).setCell ⟨B + 2, 0, none⟩ y) :=
  ((h.setCell (p := ⟨B, 0, none⟩) (Nat.le_refl _) u).setCell (p := ⟨B + 1, 0, none⟩) (by simp) x).setCell (p := ⟨B + 2, 0, none⟩) (by simp) y

set_option maxRecDepth 100000 in
set_option maxHeartbeats 1000000 in
theorem number_caught (B : Nat) (c : Int) (older : List PanicEntry) (w : World) (n x y : Value) (h : OutN w B n x y) :
    CallsD Tryd.prog 89 #[.pointer (some ⟨B, 0, none⟩), .pointer (some ⟨B + 1, 0, none⟩), .pointer (some ⟨B + 2, 0, none⟩)] (.panicking ({ v := .iface 28 (.int .i64 c), recovered := false } :: older)) w fun e u' w' =>
      e = .returned (.tuple #[]) ∧ u' = .panicking ({ v := .iface 28 (.int .i64 c), recovered := true } :: older) ∧ Below B w w' ∧ OutN w' B (.int .u64 0) (.int .i64 0) (.int .i64 c) := by
  have c0 := box_at (j := 0) h.r0 rfl
  have c1 := box_at (j := 0) h.r1 rfl
  have c2 := box_at (j := 0) h.r2 rfl
  have f0 := box_free h.r0 0
  have f1 := box_free h.r1 0
  have f2 := box_free h.r2 0
  have hca := hid caught_calls
  refine callsD_of_wpS Tryd.func89 rfl fun c₀ cs hu => ?_
  apply wpS_seq
  apply wpS_region
  simp [wpOpsS, go_sem, recoverD, hu, Tryd.ntmps89, Exit.thenS]
  refine wpS_of_wp ?_
  go_wp2_with fail
  refine (hca.out _ _).mono ?_
  rintro e w1 ⟨rfl, rfl⟩
  go_wp2_with fail
  have hB := outN_below (Below.refl B w) (.int .u64 0) (.int .i64 0) (.int .i64 c)
  have hO := ((h.set0 (.int .u64 0)).set1 (.int .i64 0)).set2 (.int .i64 c)
  cases c₀
  simp only at hu
  subst hu
  simp [bodyPostS, results, Tryd.results89]
  exact ⟨hB, hO⟩
set_option maxRecDepth 100000 in
theorem number_idle (a b c : Value) (w : World) :
    CallsD Tryd.prog 89 #[a, b, c] .returning w fun e u' w' => e = .returned (.tuple #[]) ∧ u' = .returning ∧ w' = w := by
  refine callsD_of_wpS Tryd.func89 rfl fun c₀ cs hu => ?_
  apply wpS_seq
  apply wpS_region
  simp [wpOpsS, go_sem, recoverD, hu, Tryd.ntmps89, Exit.thenS]
  refine wpS_of_wp ?_
  go_wp2_with fail
  cases c₀
  simp_all [bodyPostS, results, Tryd.results89]

/-- What a number at a place is; no place: an argument that may not be. -/
def numAt (l : List UInt8) (z : Int) : Got Nat := if z < 0 ∨ (l.length : Int) < z then .bad 1 else numR 0 0 (l.drop z.toNat)
/-- What Number tells. -/
def Numbered (R : Got Nat) (z : Int) (w : World) (e : Ending) (w' : World) : Prop :=
  Below w.heap.size w w' ∧ match R with
    | .bad c => e = .returned (.tuple #[.int .u64 0, .int .i64 0, .int .i64 c])
    | .ok n k => e = .returned (.tuple #[.int .u64 n, .int .i64 (z + k), .int .i64 0])

set_option maxRecDepth 100000 in
set_option maxHeartbeats 4000000 in
theorem enumber_calls {w : World} {bv : Value} {l : List UInt8} (hb : BytesAt w (Now w) l bv) (hl : l.length ≤ 140737488355328) (z : Int) (hz : I64 z) :
    Calls Tryd.prog 51 #[bv, .int .i64 z] w (Numbered (numAt l z) z w) := by
  obtain ⟨R, hR⟩ : ∃ R, R = numAt l z := ⟨_, rfl⟩
  rw [← hR]
  unfold numAt at hR
  have hmf : ∀ (fn : Fn) (first cap : Array Value) (w : World), (Instr.makeFunc fn first cap).run Tryd.prog w = .ok (.func fn first cap) w := fun _ _ _ _ => rfl
  have hb0 := hid hb
  obtain ⟨a, cap, rfl, hc1, hc2, _⟩ := hb
  by_cases hneg : z < 0
  · rw [if_pos (.inl hneg)] at hR
    subst hR
    go_enter_defers Tryd.func51, Tryd.ntmps51
    go_wp2_with fail
    simp [bodyPostD, Leaves, results, Tryd.results51, go_sem]
    exact ⟨((below_new _ _).step (below_new _ _)).step (below_new _ _), rfl⟩
  by_cases hbig : (l.length : Int) < z
  · rw [if_pos (.inr hbig)] at hR
    subst hR
    go_enter_defers Tryd.func51, Tryd.ntmps51
    go_wp2_with fail
    simp [bodyPostD, Leaves, results, Tryd.results51, go_sem]
    exact ⟨((below_new _ _).step (below_new _ _)).step (below_new _ _), rfl⟩
  rw [if_neg (by omega)] at hR
  obtain ⟨p, rfl⟩ := Int.eq_ofNat_of_zero_le (Int.not_lt.1 hneg)
  have hp : p ≤ l.length := by omega
  rw [Int.toNat_natCast] at hR
  have g1 : ¬ ((p : Int) < 0) := hneg
  have g2 : ¬ ((l.length : Int) < (p : Int)) := hbig
  obtain ⟨W4, hW4⟩ : ∃ W4, W4 = (((w.alloc (.cells #[.int .u64 0] 74)).alloc (.cells #[.int .i64 0] 3)).alloc (.cells #[.int .i64 0] 28)).alloc (.cells #[.slice a l.length cap, .int .i64 (p : Int)] 101) := ⟨_, rfl⟩
  have hb4 : Hid (Below w.heap.size w W4) := by show Below _ _ _; rw [hW4]; exact (((below_new _ _).step (below_new _ _)).step (below_new _ _)).step (below_new _ _)
  have ho4 : Hid (OutN W4 w.heap.size (.int .u64 0) (.int .i64 0) (.int .i64 0)) := by
    rw [hW4]
    exact ⟨al_old (al_old (al_old (al_at rfl))), al_old (al_old (al_at (by simp))), al_old (al_at (by simp))⟩
  have hat : Hid (At W4 (w.heap.size + 1 + 1 + 1) (.slice a l.length cap) l p) :=
    ⟨by rw [hW4]; exact al_at (by simp), hb0.out.keep (fun b hb => by have : b < w.heap.size := hb; omega) (fun b hb => hb4.out.block b hb), hp, hl⟩
  have hsz4 : Hid (W4.heap.size = w.heap.size + 1 + 1 + 1 + 1) := by show _ = _; rw [hW4]; simp
  have hval := hid (number_calls hat.out)
  rw [← hR] at hval
  clear hneg hbig
  cases R with
  | bad c =>
    clear hR
    go_enter_defers Tryd.func51, Tryd.ntmps51
    go_wp2_with fail
    rw [← hW4]
    refine hval.out.mono ?_
    rintro e w5 ⟨hs5, rfl⟩
    go_wp2_with fail
    have ho5 := hid (ho4.out.save hs5 (by omega) (by omega) (by omega) (by have := hsz4.out; omega))
    refine leaves_cons (f := 89) (args := #[.pointer (some ⟨w.heap.size, 0, none⟩), .pointer (some ⟨w.heap.size + 1, 0, none⟩), .pointer (some ⟨w.heap.size + 1 + 1, 0, none⟩)]) (by simp) (by simp [go_sem]) ?_
    refine (number_caught w.heap.size c [] w5 _ _ _ ho5.out).mono ?_
    rintro e u' w6 ⟨rfl, rfl, hb6, ho6⟩
    have z0 := box_at (j := 0) ho6.r0 rfl
    have z5 := box_at (j := 0) ho6.r1 rfl
    have z6 := box_at (j := 0) ho6.r2 rfl
    simp [Leaves, settle, results, Tryd.results51, go_sem, z0, z5, z6]
    exact ⟨(hb4.out.trans (hs5.below (by omega) (by have := hsz4.out; omega))).trans hb6, rfl⟩
  | ok n k =>
    have hgl : Hid (w.heap.size + 1 + 1 + 1 < W4.heap.size) := by show _ < _; have := hsz4.out; omega
    have hn0 : Hid (n < 18446744073709551616) := (num_inv hR.symm).1
    clear hR
    go_enter_defers Tryd.func51, Tryd.ntmps51
    go_wp2_with fail
    rw [← hW4]
    refine hval.out.mono ?_
    rintro e w5 ⟨hs5, v5, rfl, rfl, ha5⟩
    have ho5 := ho4.out.save hs5 (by omega) (by omega) (by omega) (by have := hsz4.out; omega)
    have c00 := box_at (j := 0) ho5.r0 rfl
    have f0 := box_free ho5.r0 0
    have ho7 := hid (ho5.set0 (.int .u64 (n : Int)))
    have hb7 := hid ((hb4.out.trans (hs5.below (by omega) hgl.out)).setCell (p := ⟨w.heap.size, 0, none⟩) (Nat.le_refl _) (.int .u64 (n : Int)))
    have hrg : Hid ((w5.setCell ⟨w.heap.size, 0, none⟩ (.int .u64 (n : Int))).heap[w.heap.size + 1 + 1 + 1]? = some (.cells #[.slice a l.length cap, .int .i64 ((p : Int) + (k : Int))] 101 (0, 0))) := by
      show _ = _
      rw [Below.heap_setCell _ _ _ _ (by simp; omega), ha5.row]; rfl
    clear ho5 ha5 hs5
    go_upto_region 6 with fail
    generalize w5.setCell ⟨w.heap.size, 0, none⟩ (.int .u64 (n : Int)) = w7 at *
    clear c00 f0
    refine wp_region_noPanic ?_
    refine wp_region_T (TkS (w.heap.size + 1 + 1 + 1) (.int .i64 ((p : Int) + (k : Int)))) 6 (by kernel_rfl) ?_
    have hS0 : TkS (w.heap.size + 1 + 1 + 1) (.int .i64 ((p : Int) + (k : Int))) w7.drew := tkS_mk hrg.out rfl
    ((refine wpAnyT_take (i := 1) (v := ?_) rfl (by kernel_rfl) (by kernel_rfl) (by kernel_rfl) (by kernel_rfl) (by exact fun _ _ _ h => h) (Or.inl ⟨by rfl, ?_⟩) hS0 ?_; rotate_left 1; focus (intro w hSw; unfold TkS at hSw; (try dsimp only at hSw); go_simp; try with_reducible rfl); (try simp only [List.getElem_toArray, List.getElem_cons_zero, List.getElem_cons_succ, Act.put, List.setIfInBounds_toArray, List.set_cons_zero, List.set_cons_succ])); (refine wpAnyT_take (i := 2) (v := ?_) rfl (by kernel_rfl) (by kernel_rfl) (by kernel_rfl) (by kernel_rfl) (by exact fun _ _ _ h => h) (Or.inl ⟨by rfl, ?_⟩) hS0 ?_; rotate_left 1; focus (intro w hSw; unfold TkS at hSw; (try dsimp only at hSw); go_simp; try with_reducible rfl); (try simp only [List.getElem_toArray, List.getElem_cons_zero, List.getElem_cons_succ, Act.put, List.setIfInBounds_toArray, List.set_cons_zero, List.set_cons_succ])); (refine wpAnyT_take (i := 3) (v := ?_) rfl (by kernel_rfl) (by kernel_rfl) (by kernel_rfl) (by kernel_rfl) (by exact fun _ _ _ h => h) (Or.inl ⟨by rfl, ?_⟩) hS0 ?_; rotate_left 1; focus (intro w hSw; unfold TkS at hSw; (try dsimp only at hSw); go_simp; try with_reducible rfl); (try simp only [List.getElem_toArray, List.getElem_cons_zero, List.getElem_cons_succ, Act.put, List.setIfInBounds_toArray, List.set_cons_zero, List.set_cons_succ])); (refine wpAnyT_take (i := 4) (v := ?_) rfl (by kernel_rfl) (by kernel_rfl) (by kernel_rfl) (by kernel_rfl) (by exact fun _ _ _ h => h) (Or.inl ⟨by rfl, ?_⟩) hS0 ?_; rotate_left 1; focus (intro w hSw; unfold TkS at hSw; (try dsimp only at hSw); go_simp; try with_reducible rfl); (try simp only [List.getElem_toArray, List.getElem_cons_zero, List.getElem_cons_succ, Act.put, List.setIfInBounds_toArray, List.set_cons_zero, List.set_cons_succ])))
    have c00 := box_at (j := 0) ho7.out.r0 rfl
    have c05 := box_at (j := 0) ho7.out.r1 rfl
    have c06 := box_at (j := 0) ho7.out.r2 rfl
    have f0 := box_free ho7.out.r0 0
    have f1 := box_free ho7.out.r1 0
    have f2 := box_free ho7.out.r2 0
    refine wpAnyT_one (i := 0) (by kernel_rfl) rfl (fun K hK => ?_)
    go_simp
    (refine hK.out _ _ (fun _ => hS0) (fun _ => ?_); clear hK K; (try simp only [Act.put, List.setIfInBounds_toArray, List.set_cons_zero, List.set_cons_succ]))
    clear hS0
    refine wpAnyT_one (i := 5) (by kernel_rfl) rfl (fun K hK => ?_)
    go_simp
    (refine hK.out _ _ (fun _ => tkS_mk hrg.out (Below.heap_setCell _ _ _ _ (by simp; omega))) (fun _ => ?_); clear hK K; (try simp only [Act.put, List.setIfInBounds_toArray]))
    refine wpAnyT_one (i := 6) (by kernel_rfl) rfl (fun K hK => ?_)
    go_simp
    (refine hK.out _ _ (fun h => absurd h (by decide)) (fun _ => ?_); clear hK K; (try simp only [Act.put, List.setIfInBounds_toArray]))
    refine wpAnyT_one (i := 7) (by kernel_rfl) rfl (fun K hK => ?_)
    go_simp
    (refine hK.out _ _ (fun h => absurd h (by decide)) (fun _ => ?_); clear hK K; (try simp only [Act.put, List.setIfInBounds_toArray]))
    refine wpAnyT_done (by kernel_rfl) (NoPanic.normal ?_) _
    have ho9 := hid ((((ho7.out.set0 (.int .u64 (n : Int))).set1 (.int .i64 ((p : Int) + (k : Int)))).set2 (.int .i64 0)).drew)
    have hb9 := hid (outN_below hb7.out (.int .u64 (n : Int)) (.int .i64 ((p : Int) + (k : Int))) (.int .i64 0)).drew
    clear c00 c05 c06 f0 f1 f2
    rw [show w.heap.size + 2 = w.heap.size + 1 + 1 from rfl] at ho9 hb9
    generalize (((w7.setCell ⟨w.heap.size, 0, none⟩ (.int .u64 (n : Int))).setCell ⟨w.heap.size + 1, 0, none⟩ (.int .i64 ((p : Int) + (k : Int)))).setCell ⟨w.heap.size + 1 + 1, 0, none⟩ (.int .i64 0)).drew = w9 at *
    go_wp2_with fail
    refine leaves_cons (f := 89) (args := #[.pointer (some ⟨w.heap.size, 0, none⟩), .pointer (some ⟨w.heap.size + 1, 0, none⟩), .pointer (some ⟨w.heap.size + 1 + 1, 0, none⟩)]) (by simp) (by simp [go_sem]) ?_
    refine (number_idle _ _ _ w9).mono ?_
    rintro e u' w10 ⟨rfl, rfl, rfl⟩
    have z0 := box_at (j := 0) ho9.out.r0 rfl
    have z5 := box_at (j := 0) ho9.out.r1 rfl
    have z6 := box_at (j := 0) ho9.out.r2 rfl
    simp [Leaves, settle, results, Tryd.results51, go_sem, z0, z5, z6]
    exact ⟨hb9.out, rfl⟩

/-- What Get tells. -/
def GotV (R : Got PVal) (w : World) (e : Ending) (w' : World) : Prop :=
  Below w.heap.size w w' ∧ match R with
    | .bad c => e = .returned (.tuple #[.agg none5, .int .i64 c])
    | .ok V _ => ∃ cs, e = .returned (.tuple #[.agg cs.toArray, .int .i64 0]) ∧ Rd w' (From w.heap.size w') V cs

/-- What Get tells, and that its lists may be written. -/
def GotW (R : Got PVal) (w : World) (e : Ending) (w' : World) : Prop :=
  Below w.heap.size w w' ∧ match R with
    | .bad c => e = .returned (.tuple #[.agg none5, .int .i64 c])
    | .ok V _ => ∃ cs, e = .returned (.tuple #[.agg cs.toArray, .int .i64 0]) ∧ Rd w' (From w.heap.size w') V cs ∧ Thaw w.heap.size w' cs
theorem GotW.v {R : Got PVal} {w w' : World} {e : Ending} (h : GotW R w e w') : GotV R w e w' := by
  obtain ⟨h1, h2⟩ := h
  refine ⟨h1, ?_⟩
  cases R with
  | bad c => exact h2
  | ok V n =>
    obtain ⟨cs, he, hr, _⟩ := h2
    exact ⟨cs, he, hr⟩

set_option maxRecDepth 100000 in
set_option maxHeartbeats 2000000 in
theorem get_calls_w {w : World} {bv : Value} {l : List UInt8} (hb : BytesAt w (Now w) l bv) (hT : Tabs w) (hl : l.length ≤ 140737488355328) :
    Calls Tryd.prog 27 #[bv] w (GotW (getR l) w) := by
  have ht := hid (fun (w' : World) (h : Below w.heap.size w w') => take_calls (hb.later h) (Tabs.stays w w' hT h) hl 0 (by unfold I64; omega))
  have e0 : takeAt l 0 = takeR l := by unfold takeAt; rw [if_neg (by omega)]; rfl
  rw [e0] at ht
  obtain ⟨a, cap, rfl, hc1, hc2, _⟩ := hb
  unfold getR
  cases hR : takeR l with
  | bad c =>
    rw [hR] at ht
    have hc := takeR_pos hR
    have hc0 : (c != 0) = true := by simp; omega
    have hc1 : ¬ c = 0 := by omega
    replace hR := hid hR
    go_enter Tryd.func27, Tryd.ntmps27
    go_wp2_with fail
    refine (ht.out _ (below_new _ _)).mono ?_
    rintro e w2 ⟨h2, rfl⟩
    unfold none5
    have hb2 := hid ((below_new w _).step h2)
    have r2 := hid ((h2.block w.heap.size (by simp)).trans (heap_alloc_new w _))
    go_upto_region 2 with fail
    obtain ⟨w3, hw3⟩ : ∃ w3, w3 = w2.alloc (.cells #[.int .i64 0, .int .i64 0, .string ByteArray.empty, .slice none 0 0, .slice none 0 0] 25) := ⟨_, rfl⟩
    have hb3 : Hid (Below w2.heap.size w2 w3) := by show Below _ _ _; rw [hw3]; exact below_new _ _
    have r4 : Hid (w3.heap[w2.heap.size]? = some (.cells #[.int .i64 0, .int .i64 0, .string ByteArray.empty, .slice none 0 0, .slice none 0 0] 25 (0, 0))) := by show _ = _; rw [hw3]; exact heap_alloc_new _ _
    have r3 := hid ((hb3.out.block _ (lt_of_block r2.out)).trans r2.out)
    have hlt : Hid (w.heap.size < w2.heap.size) := lt_of_block r2.out
    rw [← hw3]
    clear hw3 r2 h2
    have c00 := box_at (j := 0) r3.out rfl
    have c01 := box_at (j := 1) r3.out rfl
    have c02 := box_at (j := 2) r3.out rfl
    have c03 := box_at (j := 3) r3.out rfl
    have c04 := box_at (j := 4) r3.out rfl
    have f0 := box_free r3.out
    go_wp2_with fail
    have rz := hid (set5_box (u0 := (.int .i64 0)) (u1 := (.int .i64 0)) (u2 := (.string ⟨#[]⟩)) (u3 := (.slice none 0 0)) (u4 := (.slice none 0 0)) r3.out)
    have hbz := hid (set5_below (hb2.out.step hb3.out) (Nat.le_refl _) (.int .i64 0) (.int .i64 0) (.string ⟨#[]⟩) (.slice none 0 0) (.slice none 0 0))
    unfold set5 at rz hbz
    clear c00 c01 c02 c03 c04 f0
    generalize (((((w3.setCell ⟨w.heap.size, 0, none⟩ (.int .i64 0)).setCell ⟨w.heap.size, 1, none⟩ (.int .i64 0)).setCell ⟨w.heap.size, 2, none⟩ (.string ⟨#[]⟩)).setCell ⟨w.heap.size, 3, none⟩ (.slice none 0 0)).setCell ⟨w.heap.size, 4, none⟩ (.slice none 0 0)) = w9 at *
    have z0 := box_at (j := 0) rz.out rfl
    have z1 := box_at (j := 1) rz.out rfl
    have z2 := box_at (j := 2) rz.out rfl
    have z3 := box_at (j := 3) rz.out rfl
    have z4 := box_at (j := 4) rz.out rfl
    refine ⟨rfl, _, by simp [results, Tryd.results27, go_sem, z0, z1, z2, z3, z4]; rfl, hbz.out, rfl⟩
  | ok V n =>
    rw [hR] at ht
    have hnle : n ≤ l.length := by
      unfold takeR at hR
      split at hR
      · cases hR
      rename_i hv
      split at hR
      · cases hR
      injection hR with e1 e2
      subst e1 e2
      exact (val_is 8 _ _ _ hv).2.le
    obtain ⟨kk, kn, ks, kl, kfn, kfv⟩ := V
    clear hR
    by_cases hlt' : n < l.length
    · simp only [if_pos hlt']
      have d1 : (n : Int) < (l.length : Int) := by omega
      go_enter Tryd.func27, Tryd.ntmps27
      go_wp2_with fail
      refine (ht.out _ (below_new _ _)).mono ?_
      rintro e w2 ⟨h2, cs2, rfl, hr2, ht2⟩
      obtain ⟨ka, kc, kf, kg, rfl, _⟩ := hr2.inv
      clear hr2 ht2
      have hb2 := hid ((below_new w _).step h2)
      have r2 := hid ((h2.block w.heap.size (by simp)).trans (heap_alloc_new w _))
      go_upto_region 2 with fail
      obtain ⟨w3, hw3⟩ : ∃ w3, w3 = w2.alloc (.cells #[.int .i64 kk, .int .i64 kn, .string ks, .slice ka kl.length kc, .slice kf kfv.length kg] 25) := ⟨_, rfl⟩
      have hb3 : Hid (Below w2.heap.size w2 w3) := by show Below _ _ _; rw [hw3]; exact below_new _ _
      have r4 : Hid (w3.heap[w2.heap.size]? = some (.cells #[.int .i64 kk, .int .i64 kn, .string ks, .slice ka kl.length kc, .slice kf kfv.length kg] 25 (0, 0))) := by show _ = _; rw [hw3]; exact heap_alloc_new _ _
      have r3 := hid ((hb3.out.block _ (lt_of_block r2.out)).trans r2.out)
      have hlt : Hid (w.heap.size < w2.heap.size) := lt_of_block r2.out
      rw [← hw3]
      clear hw3 r2 h2
      have c00 := box_at (j := 0) r3.out rfl
      have c01 := box_at (j := 1) r3.out rfl
      have c02 := box_at (j := 2) r3.out rfl
      have c03 := box_at (j := 3) r3.out rfl
      have c04 := box_at (j := 4) r3.out rfl
      have f0 := box_free r3.out
      go_wp2_with fail
      have rz := hid (set5_box (u0 := (.int .i64 0)) (u1 := (.int .i64 0)) (u2 := (.string ⟨#[]⟩)) (u3 := (.slice none 0 0)) (u4 := (.slice none 0 0)) r3.out)
      have hbz := hid (set5_below (hb2.out.step hb3.out) (Nat.le_refl _) (.int .i64 0) (.int .i64 0) (.string ⟨#[]⟩) (.slice none 0 0) (.slice none 0 0))
      unfold set5 at rz hbz
      clear c00 c01 c02 c03 c04 f0
      generalize (((((w3.setCell ⟨w.heap.size, 0, none⟩ (.int .i64 0)).setCell ⟨w.heap.size, 1, none⟩ (.int .i64 0)).setCell ⟨w.heap.size, 2, none⟩ (.string ⟨#[]⟩)).setCell ⟨w.heap.size, 3, none⟩ (.slice none 0 0)).setCell ⟨w.heap.size, 4, none⟩ (.slice none 0 0)) = w9 at *
      have z0 := box_at (j := 0) rz.out rfl
      have z1 := box_at (j := 1) rz.out rfl
      have z2 := box_at (j := 2) rz.out rfl
      have z3 := box_at (j := 3) rz.out rfl
      have z4 := box_at (j := 4) rz.out rfl
      refine ⟨rfl, _, by simp [results, Tryd.results27, go_sem, z0, z1, z2, z3, z4]; rfl, hbz.out, rfl⟩
    · simp only [if_neg hlt']
      have d1 : ¬ (n : Int) < (l.length : Int) := by omega
      go_enter Tryd.func27, Tryd.ntmps27
      go_wp2_with fail
      refine (ht.out _ (below_new _ _)).mono ?_
      rintro e w2 ⟨h2, cs2, rfl, hr2, ht2⟩
      obtain ⟨ka, kc, kf, kg, rfl, _⟩ := hr2.inv
      replace hr2 := hid hr2
      replace ht2 := hid ht2
      have hb2 := hid ((below_new w _).step h2)
      have r2 := hid ((h2.block w.heap.size (by simp)).trans (heap_alloc_new w _))
      go_upto_region 2 with fail
      obtain ⟨w3, hw3⟩ : ∃ w3, w3 = w2.alloc (.cells #[.int .i64 kk, .int .i64 kn, .string ks, .slice ka kl.length kc, .slice kf kfv.length kg] 25) := ⟨_, rfl⟩
      have hb3 : Hid (Below w2.heap.size w2 w3) := by show Below _ _ _; rw [hw3]; exact below_new _ _
      have r4 : Hid (w3.heap[w2.heap.size]? = some (.cells #[.int .i64 kk, .int .i64 kn, .string ks, .slice ka kl.length kc, .slice kf kfv.length kg] 25 (0, 0))) := by show _ = _; rw [hw3]; exact heap_alloc_new _ _
      have r3 := hid ((hb3.out.block _ (lt_of_block r2.out)).trans r2.out)
      have hlt : Hid (w.heap.size < w2.heap.size) := lt_of_block r2.out
      rw [← hw3]
      clear hw3 r2 h2
      have c00 := box_at (j := 0) r3.out rfl
      have c01 := box_at (j := 1) r3.out rfl
      have c02 := box_at (j := 2) r3.out rfl
      have c03 := box_at (j := 3) r3.out rfl
      have c04 := box_at (j := 4) r3.out rfl
      have f0 := box_free r3.out
      have x0 := box_at (j := 0) r4.out rfl
      have x1 := box_at (j := 1) r4.out rfl
      have x2 := box_at (j := 2) r4.out rfl
      have x3 := box_at (j := 3) r4.out rfl
      have x4 := box_at (j := 4) r4.out rfl
      go_wp2_with fail
      clear x0 x1 x2 x3 x4
      have rz := hid (set5_box (u0 := (.int .i64 kk)) (u1 := (.int .i64 kn)) (u2 := (.string ks)) (u3 := (.slice ka kl.length kc)) (u4 := (.slice kf kfv.length kg)) r3.out)
      have hbz := hid (set5_below (hb2.out.step hb3.out) (Nat.le_refl _) (.int .i64 kk) (.int .i64 kn) (.string ks) (.slice ka kl.length kc) (.slice kf kfv.length kg))
      have hr9 : Hid (Rd (set5 w3 w.heap.size (.int .i64 kk) (.int .i64 kn) (.string ks) (.slice ka kl.length kc) (.slice kf kfv.length kg)) (From w.heap.size (set5 w3 w.heap.size (.int .i64 kk) (.int .i64 kn) (.string ks) (.slice ka kl.length kc) (.slice kf kfv.length kg))) (.mk kk kn ks kl kfn kfv) [.int .i64 kk, .int .i64 kn, .string ks, .slice ka kl.length kc, .slice kf kfv.length kg]) :=
        hr2.out.keep (fun b hb => ⟨by have := hb.1; simp at this; omega, by rw [set5_size]; exact Nat.lt_of_lt_of_le hb.2 hb3.out.size⟩) (fun b hb => by
          rw [set5_other _ _ _ _ _ _ _ (by have := hb.1; simp at this; omega)]
          exact hb3.out.block b hb.2)
      have hth9 : Hid (Thaw w.heap.size (set5 w3 w.heap.size (.int .i64 kk) (.int .i64 kn) (.string ks) (.slice ka kl.length kc) (.slice kf kfv.length kg)) [.int .i64 kk, .int .i64 kn, .string ks, .slice ka kl.length kc, .slice kf kfv.length kg]) :=
        Thaw.keep ht2.out (by simp) (by rw [set5_size]; exact hb3.out.size) (fun b hb hlt => by
          rw [set5_other _ _ _ _ _ _ _ (by simp at hb; omega)]
          exact hb3.out.block b hlt)
      unfold set5 at rz hbz hr9 hth9
      clear c00 c01 c02 c03 c04 f0
      generalize (((((w3.setCell ⟨w.heap.size, 0, none⟩ (.int .i64 kk)).setCell ⟨w.heap.size, 1, none⟩ (.int .i64 kn)).setCell ⟨w.heap.size, 2, none⟩ (.string ks)).setCell ⟨w.heap.size, 3, none⟩ (.slice ka kl.length kc)).setCell ⟨w.heap.size, 4, none⟩ (.slice kf kfv.length kg)) = w9 at *
      have z0 := box_at (j := 0) rz.out rfl
      have z1 := box_at (j := 1) rz.out rfl
      have z2 := box_at (j := 2) rz.out rfl
      have z3 := box_at (j := 3) rz.out rfl
      have z4 := box_at (j := 4) rz.out rfl
      refine ⟨rfl, _, by simp [results, Tryd.results27, go_sem, z0, z1, z2, z3, z4], hbz.out, _, rfl, hr9.out, hth9.out⟩
theorem get_calls {w : World} {bv : Value} {l : List UInt8} (hb : BytesAt w (Now w) l bv) (hT : Tabs w) (hl : l.length ≤ 140737488355328) :
    Calls Tryd.prog 27 #[bv] w (GotV (getR l) w) := (get_calls_w hb hT hl).mono fun _ _ h => h.v
end Go.Proofs.YtihcegakghmdfaaDoor

namespace Go.Proofs.YtihcegakghmdfaaDoor
open Go.RowKit Go.Proofs

/-- What the reference's Number tells. -/
def RNum (R : Got Nat) (p : Nat) (w : World) (e : Ending) (w' : World) : Prop := w = w' ∧ match R with
  | .bad c => e = .returned (.tuple #[.int .u64 0, .int .i64 0, .int .i64 c])
  | .ok n k => e = .returned (.tuple #[.int .u64 n, .int .i64 ((p + k : Nat) : Int), .int .i64 0])

set_option maxRecDepth 100000 in
set_option maxHeartbeats 4000000 in
theorem rnumber_calls {w : World} {bv : Value} {l : List UInt8} (hb : BytesAt w (Now w) l bv) (hl : l.length ≤ 140737488355328) (p : Nat) (hp : p ≤ l.length) :
    Calls Tryd.prog 54 #[bv, .int .i64 p] w (RNum (numR 0 0 (l.drop p)) p w) := by
  obtain ⟨R, hR⟩ : ∃ R, R = numR 0 0 (l.drop p) := ⟨_, rfl⟩
  rw [← hR]
  replace hR := hid hR
  obtain ⟨a, cap, rfl, hc1, hc2, hcell⟩ := hb
  replace hcell := hid hcell
  go_enter Tryd.func54, Tryd.ntmps54
  go_wp2_with fail
  go_loopg [7, 8] 10 (fun gh nn kk wr => ∃ k acc : Nat, gh + k = 10 ∧ k ≤ 9 ∧ p + k ≤ l.length ∧ nn = .int .u64 acc ∧ kk = .int .i64 k ∧ Hid (acc < 128 ^ k) ∧ Hid (numR k acc (l.drop (p + k)) = R) ∧ wr = w)
  case atStart => exact ⟨0, 0, by omega, by omega, hp, rfl, rfl, show (0 : Nat) < 128 ^ 0 by decide, hR.out.symm, rfl⟩
  case round =>
    obtain ⟨k, acc, hgk, hk9, hpk, rfl, rfl, hacc, hN, rfl⟩ := hrel
    have e1 : IntKind.i64.wrap ((p : Int) + (k : Int)) = (p : Int) + (k : Int) := IntWalk.i64_in _ (by omega)
    by_cases hend : p + k = l.length
    · have hRR : Hid (R = .bad 17) := by
        show _ = _
        rw [← hN.out, List.drop_eq_nil_of_le (by omega)]; rfl
      go_wp2_with fail
      go_returns
      exact ⟨rfl, by rw [hRR.out]; rfl⟩
    have hlt : p + k < l.length := by omega
    obtain ⟨d, hd⟩ : ∃ d, l[p + k]? = some d := ⟨_, List.getElem?_eq_getElem hlt⟩
    have hdr : Hid (l.drop (p + k) = d :: l.drop (p + (k + 1))) := by
      show _ = _
      rw [List.drop_eq_getElem_cons hlt, (List.getElem?_eq_some_iff.1 hd).2, Nat.add_assoc]
    obtain ⟨b, off, rfl, hcd⟩ : ∃ b off, a = some ⟨b, off, none⟩ ∧ wr.cell? ⟨b, off + (p + k), none⟩ = some (.int .u8 d.toNat) := by
      rcases hcell.out with hn | ⟨b, off, h1, _, h2⟩
      · subst hn; simp at hlt
      · exact ⟨b, off, h1, h2 _ _ hd⟩
    have f1 : (0 : Int) ≤ (p : Int) + (k : Int) := by omega
    have f2 : (p : Int) + (k : Int) < (l.length : Int) := by omega
    have f3 : ((p : Int) + (k : Int)).toNat = p + k := by omega
    rw [hdr.out, numR] at hN
    have hd8 := d.toNat_lt
    have hand := and127 d.toNat (by omega)
    generalize d.toNat = c at *
    clear hend hd hdr
    by_cases hbig : 9 ≤ k ∧ 1 < c
    · have hRR : Hid (R = .bad 4) := by
        show _ = _
        rw [← hN.out, if_pos hbig]
      have hk : ¬ (k < 9) := by omega
      have hc : 1 < c := hbig.2
      clear hbig
      go_wp2_with fail
      go_returns
      exact ⟨rfl, by rw [hRR.out]; rfl⟩
    have hsmall : Hid (k < 9 ∨ c ≤ 1) := by show _ ∨ _; omega
    rw [if_neg hbig] at hN
    obtain ⟨hor, hA1⟩ := or_lem (c := c) hk9 hsmall.out hacc.out
    obtain ⟨A, hAe⟩ : ∃ A, A = acc + c % 128 * 128 ^ k := ⟨_, rfl⟩
    rw [← hAe] at hor hA1
    replace hor := hid hor
    replace hA1 := hid hA1
    replace hAe := hid hAe
    have q1 : ¬ (k = 9 ∧ 1 < c) := by omega
    have hk19 : k < 9 ∨ k = 9 := by omega
    by_cases g1 : 128 ≤ c
    · rw [if_pos g1] at hN
      rw [← hAe.out] at hN
      have hk8 : k < 9 := by have := hsmall.out; omega
      obtain ⟨K, hK⟩ : ∃ K, K = k + 1 := ⟨_, rfl⟩
      have hN2 : Hid (numR K A (List.drop (p + K) l) = R) := by rw [hK]; exact hN.out
      have hA2 : Hid (A < 128 ^ K) := by rw [hK]; exact hA1.out
      replace hK := hid hK
      have hc : k = 0 ∨ k = 1 ∨ k = 2 ∨ k = 3 ∨ k = 4 ∨ k = 5 ∨ k = 6 ∨ k = 7 ∨ k = 8 := by omega
      clear hN hbig hk19 q1
      go_upto_region 10 with fail
      rcases hc with rfl | rfl | rfl | rfl | rfl | rfl | rfl | rfl | rfl
      all_goals
        replace hor := hor.out
        simp only [Nat.reducePow, Int.mul_one, Int.cast_ofNat_Int] at hor
        go_wp2_with fail
        go_roundg (gk - 1)
        case measure => omega
        case rel => exact ⟨K, A, by have := hK.out; omega, by have := hK.out; omega, by have := hK.out; omega, rfl, by rw [hK.out]; rfl, hA2.out, hN2.out, rfl⟩
    rw [if_neg g1] at hN
    have hcm : c % 128 = c := by omega
    rw [← hcm, ← hAe.out, hcm] at hN
    rw [show (c : Int) % 128 = c by omega] at hor
    clear hcm
    have hcm : (c : Int) % 128 = c := by omega
    have hc : k = 0 ∨ k = 1 ∨ k = 2 ∨ k = 3 ∨ k = 4 ∨ k = 5 ∨ k = 6 ∨ k = 7 ∨ k = 8 ∨ k = 9 := by omega
    obtain ⟨K, hK⟩ : ∃ K, K = k + 1 := ⟨_, rfl⟩
    by_cases g0 : c = 0 ∧ 0 < k
    · rw [if_pos g0] at hN
      have hRR : Hid (R = .bad 4) := hN.out.symm
      obtain ⟨rfl, hk0⟩ := g0
      have hdis : k < 9 ∨ (k = 9 ∧ ¬ 1 < 0) := by omega
      clear hN hbig q1 hk19
      rcases hdis with hk | ⟨rfl, hc1⟩
      all_goals go_upto_region 10 with fail
      all_goals try (rcases hc with rfl | rfl | rfl | rfl | rfl | rfl | rfl | rfl | rfl | rfl)
      all_goals first | (exfalso; omega) | skip
      all_goals
        replace hor := hor.out
        simp only [Nat.reducePow, Int.cast_ofNat_Int] at hor
        go_wp2_with fail
        all_goals first | (go_returns; exact ⟨rfl, by rw [hRR.out]; rfl⟩)
    rw [if_neg g0] at hN
    rw [← hK] at hN
    have hRR : Hid (R = .ok A K) := hN.out.symm
    replace hK := hid hK
    have hq : (k = 0) ∨ (0 < k ∧ 0 < c) := by omega
    have hdis : k < 9 ∨ (k = 9 ∧ ¬ 1 < c) := by omega
    clear hN hbig q1 hk19 g0
    have e2 : IntKind.i64.wrap ((p : Int) + (k : Int) + 1) = (p : Int) + (k : Int) + 1 := IntWalk.i64_in _ (by omega)
    rcases hdis with hk | ⟨rfl, hc1⟩
    all_goals go_upto_region 10 with fail
    all_goals try (rcases hc with rfl | rfl | rfl | rfl | rfl | rfl | rfl | rfl | rfl | rfl)
    all_goals first | (exfalso; omega) | skip
    all_goals
      replace hor := hor.out
      simp only [Nat.reducePow, Int.mul_one, Int.cast_ofNat_Int] at hor
      try (have hcp : 0 < c := by omega)
      clear hq
      go_wp2_with fail
      all_goals (go_returns; refine ⟨rfl, ?_⟩; rw [hRR.out]; simp only; rw [hK.out]; (simp; try omega))

/-- What chunk tells. -/
def RTxt (R : Got ByteArray) (p : Nat) (w : World) (e : Ending) (w' : World) : Prop := Below w.heap.size w w' ∧ match R with
  | .bad c => e = .returned (.tuple #[.string ByteArray.empty, .int .i64 0, .int .i64 c])
  | .ok s k => e = .returned (.tuple #[.string s, .int .i64 ((p + k : Nat) : Int), .int .i64 0])

set_option maxRecDepth 100000 in
set_option maxHeartbeats 1000000 in
theorem chunk_calls {w : World} {bv : Value} {l : List UInt8} (hb : BytesAt w (Now w) l bv) (hl : l.length ≤ 35184372088832) (p : Nat) (hp : p ≤ l.length) (n : Nat) (hn : n < 18446744073709551616) :
    Calls Tryd.prog 104 #[bv, .int .i64 p, .int .u64 n] w (RTxt (txtR n (l.drop p)) p w) := by
  obtain ⟨R, hR⟩ : ∃ R, R = txtR n (l.drop p) := ⟨_, rfl⟩
  rw [← hR]
  unfold txtR at hR
  rw [List.length_drop] at hR
  have hb0 := hid hb
  obtain ⟨a, cap, rfl, hc1, hc2, hcell⟩ := hb
  clear hcell
  have e1 : IntKind.i64.wrap ((l.length : Int) - (p : Int)) = (l.length : Int) - p := IntWalk.i64_in _ (by omega)
  have e2 : IntKind.u64.wrap ((l.length : Int) - (p : Int)) = (l.length : Int) - p := by rw [IntKind.wrap_u64]; omega
  by_cases hlt : l.length - p < n
  · rw [if_pos hlt] at hR
    subst hR
    have d1 : (l.length : Int) - (p : Int) < (n : Int) := by omega
    go_enter Tryd.func104, Tryd.ntmps104
    go_wp2_with fail
    go_returns
    exact ⟨Below.refl _ _, rfl⟩
  rw [if_neg hlt] at hR
  have d1 : ¬ ((l.length : Int) - (p : Int) < (n : Int)) := by omega
  have e3 : IntKind.i64.wrap (n : Int) = n := IntWalk.i64_in _ (by omega)
  have e4 : IntKind.i64.wrap ((p : Int) + (n : Int)) = (p : Int) + (n : Int) := IntWalk.i64_in _ (by omega)
  obtain ⟨X, hX⟩ : ∃ X : ByteArray, X = ⟨((l.drop p).take n).toArray⟩ := ⟨_, rfl⟩
  obtain ⟨A, hif⟩ : ∃ A, (if cap = p then a else Option.map (fun x => x.add p) a) = A := ⟨_, rfl⟩
  have hcv : (convert 26 9 (.slice A n (cap - p))).run Tryd.prog w = .ok (.string X) w := by
    have := conv_part (p := p) (n := n) hb0.out (by omega)
    rw [← hX, sliced, Nat.mul_one, show p + n - p = n by omega, hif] at this
    exact this
  rw [← hX] at hR
  have hX1 : X.data.toList = (l.drop p).take n := by rw [hX]
  have hXs : X.size ≤ 35184372088832 := by
    have : X.data.toList.length = X.size := by simp
    rw [hX1, List.length_take, List.length_drop] at this
    omega
  replace hX := hid hX
  have hu : utf X = Lib.validD ((l.drop p).take n) := by unfold utf; rw [hX1]
  rw [← hu] at hR
  have hv := hid (rvalid_calls X hXs)
  have f1 : (p : Int) ≤ (p : Int) + (n : Int) := by omega
  have f2 : (p : Int) + (n : Int) ≤ (cap : Int) := by omega
  have f3 : ((p : Int) + (n : Int)).toNat = p + n := by omega
  clear hX1 hXs hu hlt
  cases hV : utf X with
  | false =>
    rw [hV] at hv hR
    replace hR : R = .bad 11 := hR
    subst hR
    replace hV := hid hV
    go_enter Tryd.func104, Tryd.ntmps104
    go_wp2_with fail
    refine (hv.out _).mono ?_
    rintro e w4 ⟨rfl, h4⟩
    go_wp2_with fail
    go_returns
    exact ⟨h4, rfl⟩
  | true =>
    rw [hV] at hv hR
    replace hR : R = .ok X n := hR
    subst hR
    replace hV := hid hV
    go_enter Tryd.func104, Tryd.ntmps104
    go_wp2_with fail
    refine (hv.out _).mono ?_
    rintro e w4 ⟨rfl, h4⟩
    go_wp2_with fail
    go_returns
    exact ⟨h4, rfl⟩
end Go.Proofs.YtihcegakghmdfaaDoor
