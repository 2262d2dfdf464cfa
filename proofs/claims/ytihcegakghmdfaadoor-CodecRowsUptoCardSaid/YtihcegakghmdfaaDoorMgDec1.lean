/-
  Walks: codec's must, the reader's byte.
  Walks: the reader's byte at the end; number.
  Walks: the reader's many, text, name.
-/
import Derived.Test.YtihcegakghmdfaaDoorMgBuf
import Derived.Test.YtihcegakghmdfaaDoorMgRef1
import Derived.Test.YtihcegakghmdfaaDoorMgOrd0
import Derived.BigQuiet
import Derived.Laws.Shifts
import Derived.Test.YtihcegakghmdfaaDoorMgVal14
namespace Go.Proofs.YtihcegakghmdfaaDoor
open Go.RowKit Go.Proofs

/-- A call that ended by this error. -/
def Thrown (e : Ending) (c : Int) : Prop := e = .panicked [{ v := .iface 28 (.int .i64 c), recovered := false }]

theorem must_yes (c : Int) (w : World) : Calls Tryd.prog 72 #[.bool true, .int .i64 c] w fun e w' => e = .returned (.tuple #[]) ∧ w = w' := by
  go_enter Tryd.func72, Tryd.ntmps72
  go_wp2_with fail
  go_returns
  exact ⟨rfl, rfl⟩
theorem must_no (c : Int) (w : World) : Calls Tryd.prog 72 #[.bool false, .int .i64 c] w fun e w' => Thrown e c ∧ w = w' := by
  go_enter Tryd.func72, Tryd.ntmps72
  go_wp2_with fail
  exact ⟨rfl, rfl, rfl⟩

/-- The reader: its bytes, and where it stands. -/
structure At (w : World) (g : Nat) (bv : Value) (l : List UInt8) (p : Nat) : Prop where
  row : w.heap[g]? = some (.cells #[bv, .int .i64 p] 101 (0, 0))
  src : BytesAt w (· < g) l bv
  le : p ≤ l.length
  lim : l.length ≤ 140737488355328
theorem At.cell0 {w : World} {g : Nat} {bv : Value} {l : List UInt8} {p : Nat} (h : At w g bv l p) : w.cell? ⟨g, 0, none⟩ = some bv := cell_of_row _ _ _ _ _ _ h.row
theorem At.cell1 {w : World} {g : Nat} {bv : Value} {l : List UInt8} {p : Nat} (h : At w g bv l p) : w.cell? ⟨g, 1, none⟩ = some (.int .i64 p) := cell_of_row _ _ _ _ _ _ h.row
theorem At.free {w : World} {g : Nat} {bv : Value} {l : List UInt8} {p : Nat} (h : At w g bv l p) : w.frozen? ⟨g, 1, none⟩ = false := frozen_of_row _ _ _ _ _ h.row
theorem At.lt {w : World} {g : Nat} {bv : Value} {l : List UInt8} {p : Nat} (h : At w g bv l p) : g < w.heap.size := (Array.getElem?_eq_some_iff.1 h.row).1
theorem At.keep {w w' : World} {g : Nat} {bv : Value} {l : List UInt8} {p : Nat} (h : At w g bv l p) (hb : ∀ b, b ≤ g → w'.heap[b]? = w.heap[b]?) : At w' g bv l p :=
  ⟨(hb g (Nat.le_refl _)).trans h.row, h.src.keep (fun _ k => k) (fun b k => hb b (Nat.le_of_lt k)), h.le, h.lim⟩
theorem At.later {w w' : World} {g : Nat} {bv : Value} {l : List UInt8} {p : Nat} (h : At w g bv l p) (hb : Below w.heap.size w w') : At w' g bv l p :=
  h.keep fun b k => hb.block b (Nat.lt_of_le_of_lt k h.lt)
theorem At.set {w : World} {g : Nat} {bv : Value} {l : List UInt8} {p q : Nat} (h : At w g bv l p) (hq : q ≤ l.length) {z : Int} (hz : z = q) : At (w.setCell ⟨g, 1, none⟩ (.int .i64 z)) g bv l q := by
  subst hz
  refine ⟨?_, h.src.keep (fun _ k => k) (fun b k => heap_setCell_other w ⟨g, 1, none⟩ b _ (by simp; omega)), hq, h.lim⟩
  rw [heap_setCell_same w g 1 _ _ _ h.row]
  rfl

set_option maxRecDepth 100000 in
theorem byte_some {w : World} {g : Nat} {bv : Value} {l : List UInt8} {p : Nat} {d : UInt8} (h : At w g bv l p) (hd : l[p]? = some d) :
    Calls Tryd.prog 101 #[.pointer (some ⟨g, 0, none⟩)] w fun e w' => e = .returned (.int .u8 d.toNat) ∧ Save g w w' ∧ At w' g bv l (p + 1) := by
  have hlt : p < l.length := (List.getElem?_eq_some_iff.1 hd).1
  have h0 := hid h
  obtain ⟨a, cap, rfl, hc1, hc2, hs⟩ := h.src
  obtain ⟨b, off, rfl, hb, hcell⟩ : ∃ b off, a = some ⟨b, off, none⟩ ∧ b < g ∧ ∀ (j : Nat) (c : UInt8), l[j]? = some c → w.cell? ⟨b, off + j, none⟩ = some (.int .u8 c.toNat) := by
    rcases hs with rfl | hs
    · simp at hlt
    · exact hs
  have c0 := Later.cell h.cell0
  have c1 := Later.cell h.cell1
  have hlim := h.lim
  have i1 : (p : Int) < (l.length : Int) := by omega
  have hmy := hid must_yes
  go_enter Tryd.func101, Tryd.ntmps101
  go_upto_region 1 with fail
  refine wp_later_tail 10 (by kernel_rfl) (by kernel_rfl) ?_
  simp only [List.take_succ_cons, List.take_zero, List.drop_succ_cons, List.drop_zero]
  repeat (go_big_quiet_step (fail))
  refine wpQuiet_nil ?_
  rintro _ ⟨q, rfl⟩
  have h1 := hid (h0.out.later q.h)
  replace c0 := h1.out.cell0
  replace c1 := h1.out.cell1
  have fz := h1.out.free
  go_wp2_with fail
  refine (hmy.out _ _).mono ?_
  rintro e w1 ⟨rfl, rfl⟩
  go_upto_region 3 with fail
  have h2 := hid (h1.out.set (q := p + 1) (by omega) (z := (p : Int) + 1) (by omega))
  have hsv := hid ((Save.of_below q.h).trans (Save.set q.x g 1 (.int .i64 ((p : Int) + 1))))
  generalize q.x.setCell ⟨g, 1, none⟩ (.int .i64 ((p : Int) + 1)) = w2 at *
  replace c0 := Later.cell h2.out.cell0
  replace c1 := Later.cell h2.out.cell1
  have c2 : w2.cell? ⟨b, off + p, none⟩ = some (.int .u8 d.toNat) := by
    obtain ⟨a', cap', he, _, _, hs'⟩ := h2.out.src
    injection he with e1 e2 e3
    rcases hs' with hs' | ⟨b', off', h3, _, h4⟩
    · rw [hs'] at hlt; simp at hlt
    · rw [h3] at e1
      injection e1 with e1
      injection e1 with e1 e2
      subst e1 e2
      exact h4 p d hd
  replace c2 := Later.cell c2
  have e1 : IntKind.i64.wrap (((p + 1 : Nat) : Int) - 1) = (p : Int) := by rw [IntWalk.i64_in _ (by omega)]; omega
  clear hcell hs
  refine wp_later (by kernel_rfl) (by kernel_rfl) ?_
  repeat (go_big_quiet_step (fail))
  refine wpQuiet_nil ?_
  rintro _ ⟨q2, rfl⟩
  clear c0 c1 c2
  go_wp2_with fail
  go_ret
  exact ⟨rfl, hsv.out.trans (Save.of_below q2.h), h2.out.later q2.h⟩
end Go.Proofs.YtihcegakghmdfaaDoor

namespace Go.Proofs.YtihcegakghmdfaaDoor
open Go.RowKit Go.Proofs

theorem At.src_a {w : World} {g : Nat} {bv : Value} {l : List UInt8} {p : Nat} (h : At w g bv l p) : ∃ a cap, bv = .slice a l.length cap := by
  obtain ⟨a, cap, h1, _⟩ := h.src
  exact ⟨a, cap, h1⟩

set_option maxRecDepth 100000 in
theorem byte_none {w : World} {g : Nat} {bv : Value} {l : List UInt8} {p : Nat} (h : At w g bv l p) (hd : p = l.length) :
    Calls Tryd.prog 101 #[.pointer (some ⟨g, 0, none⟩)] w fun e w' => Thrown e 17 ∧ Save g w w' := by
  have h0 := hid h
  obtain ⟨a, cap, rfl⟩ := h.src_a
  have c0 := Later.cell h.cell0
  have c1 := Later.cell h.cell1
  have hlim := h.lim
  have i1 : ¬ (p : Int) < (l.length : Int) := by omega
  have hmn := hid must_no
  go_enter Tryd.func101, Tryd.ntmps101
  go_upto_region 1 with fail
  refine wp_later_tail 10 (by kernel_rfl) (by kernel_rfl) ?_
  simp only [List.take_succ_cons, List.take_zero, List.drop_succ_cons, List.drop_zero]
  repeat (go_big_quiet_step (fail))
  refine wpQuiet_nil ?_
  rintro _ ⟨q, rfl⟩
  clear c0 c1
  go_wp2_with fail
  refine (hmn.out _ _).mono ?_
  rintro e w1 ⟨rfl, rfl⟩
  go_wp2_with fail
  exact ⟨rfl, rfl, Save.of_below q.h⟩

/-- What the reader tells: an error thrown, or something, and where it stands then. -/
def Told {α : Type} (R : Got α) (give : World → α → Value → Prop) (w : World) (g : Nat) (bv : Value) (l : List UInt8) (p : Nat) (e : Ending) (w' : World) : Prop :=
  Save g w w' ∧ match R with
  | .bad c => Thrown e c
  | .ok x n => ∃ v, e = .returned v ∧ give w' x v ∧ At w' g bv l (p + n)

theorem told_bad {α : Type} {R : Got α} {give : World → α → Value → Prop} {w : World} {g : Nat} {bv : Value} {l : List UInt8} {p : Nat} {w' : World} {c : Int} (hR : R = .bad c) (hs : Save g w w') :
    Told R give w g bv l p (.panicked [{ v := .iface 28 (.int .i64 c), recovered := false }]) w' := by
  subst hR; exact ⟨hs, rfl⟩
theorem told_ok {α : Type} {R : Got α} {give : World → α → Value → Prop} {w : World} {g : Nat} {bv : Value} {l : List UInt8} {p : Nat} {w' : World} {x : α} {n q : Nat} {v : Value} (hR : R = .ok x n) (hs : Save g w w') (hg : give w' x v) (hq : q = p + n) (ha : At w' g bv l q) :
    Told R give w g bv l p (.returned v) w' := by
  subst hR hq; exact ⟨hs, v, rfl, hg, ha⟩

theorem and127 (d : Nat) (h : d < 256) : bits .and .u8 (d : Int) 127 = ((d % 128 : Nat) : Int) := by
  have key : ∀ k : Fin 256, bits .and .u8 (k.1 : Int) 127 = ((k.1 % 128 : Nat) : Int) := by decide +kernel
  exact key ⟨d, h⟩
theorem or_add (a b k : Nat) (ha : a < 2 ^ k) (hb : a + b * 2 ^ k < 18446744073709551616) : bits .or .u64 (a : Int) ((b * 2 ^ k : Nat) : Int) = ((a + b * 2 ^ k : Nat) : Int) := by
  show IntKind.u64.wrap ((BitVec.ofInt 64 (a : Int) ||| BitVec.ofInt 64 ((b * 2 ^ k : Nat) : Int)).toNat : Int) = _
  have h1 : (BitVec.ofInt 64 (a : Int)).toNat = a := by
    rw [BitVec.ofInt_natCast, BitVec.toNat_ofNat]; exact Nat.mod_eq_of_lt (by omega)
  have h2 : (BitVec.ofInt 64 ((b * 2 ^ k : Nat) : Int)).toNat = b * 2 ^ k := by
    rw [BitVec.ofInt_natCast, BitVec.toNat_ofNat]; exact Nat.mod_eq_of_lt (by omega)
  rw [BitVec.toNat_or, h1, h2, Nat.or_comm, Nat.mul_comm b, ← Nat.two_pow_add_eq_or_of_lt ha, IntKind.wrap_u64]
  rw [Nat.mul_comm b] at hb
  omega

theorem or_lem {k acc c : Nat} (hk : k ≤ 9) (hc : k < 9 ∨ c ≤ 1) (hacc : acc < 128 ^ k) :
    bits .or .u64 (acc : Int) ((c : Int) % 128 * ((128 ^ k : Nat) : Int)) = ((acc + c % 128 * 128 ^ k : Nat) : Int) ∧ acc + c % 128 * 128 ^ k < 128 ^ (k + 1) := by
  have h2 : acc + c % 128 * 128 ^ k < 128 ^ (k + 1) := by
    rw [Nat.pow_succ]
    have : c % 128 * 128 ^ k ≤ 127 * 128 ^ k := Nat.mul_le_mul_right _ (by omega)
    omega
  have h3 : acc + c % 128 * 128 ^ k < 18446744073709551616 := by
    by_cases h9 : k < 9
    · have : 128 ^ (k + 1) ≤ 128 ^ 9 := Nat.pow_le_pow_right (by omega) (by omega)
      rw [pow128] at this
      omega
    · obtain rfl : k = 9 := by omega
      rw [pow128] at hacc ⊢
      have : c % 128 ≤ 1 := by omega
      omega
  refine ⟨?_, h2⟩
  have e : (128 : Nat) ^ k = 2 ^ (7 * k) := by rw [Nat.pow_mul]
  rw [e] at hacc h3 ⊢
  have := or_add acc (c % 128) (7 * k) hacc h3
  rw [← this]
  rw [Int.natCast_mul]
  rfl

def numF (g acc k : Nat) (v : Nat → Value) : Act := { tmps := #[.pointer (some ⟨g, 0, none⟩), v 1, v 2, .int .u64 (acc : Int), v 4, .int .i64 (k : Int), v 6, v 7, v 8, v 9, v 10, v 11, v 12, v 13, v 14, v 15, v 16, v 17, v 18, v 19, v 20, v 21, v 22, v 23, v 24, v 25, v 26, v 27, v 28, v 29, v 30, v 31, v 32, v 33, v 34], defers := [] }
theorem num_mk {a : Act} (g acc k : Nat) (h : numF g acc k (fun i => a.tmps.getD i undef) = a) : ∃ v, a = numF g acc k v := ⟨_, h.symm⟩
/-- What holds ahead of a digit. -/
def NumJ (g : Nat) (bv : Value) (l : List UInt8) (p : Nat) (w0 : World) (R : Got Nat) (n lab : Nat) (a : Act) (w : World) : Prop :=
  ∃ (acc k : Nat) (v : Nat → Value), a = numF g acc k v ∧ lab = 0 ∧ n + k = 9 ∧ acc < 128 ^ k ∧ numR k acc (l.drop (p + k)) = R ∧ Save g w0 w ∧ At w g bv l (p + k)

set_option maxRecDepth 100000 in
set_option maxHeartbeats 4000000 in
theorem number_calls {w : World} {g : Nat} {bv : Value} {l : List UInt8} {p : Nat} (h : At w g bv l p) :
    Calls Tryd.prog 90 #[.pointer (some ⟨g, 0, none⟩)] w (Told (numR 0 0 (l.drop p)) (fun _ n v => v = .int .u64 (n : Nat)) w g bv l p) := by
  obtain ⟨R, hR⟩ : ∃ R, R = numR 0 0 (l.drop p) := ⟨_, rfl⟩
  rw [← hR]
  replace hR := hid hR
  have h0 := hid h
  have hbs := hid (fun (w : World) (p : Nat) (d : UInt8) (h : At w g bv l p) (hd : l[p]? = some d) => byte_some h hd)
  have hbn := hid (fun (w : World) (p : Nat) (h : At w g bv l p) (hd : p = l.length) => byte_none h hd)
  have hmy := hid must_yes
  have hmn := hid must_no
  go_enter Tryd.func90, Tryd.ntmps90
  go_wp2_with fail
  refine wp_scope_pass (NumJ g bv l p w R) ?_ ?_
  · rintro n lab a' w' ⟨acc, k, v, rfl, rfl, hnk, hacc, hN, hS, hA⟩
    refine ⟨_, rfl, ?_⟩
    simp only [numF]
    replace hN := hid hN
    replace hacc := hid hacc
    replace hS := hid hS
    have hle := hA.le
    replace hA := hid hA
    by_cases hend : p + k = l.length
    · have hRR : Hid (R = .bad 17) := by
        show _ = _
        rw [← hN.out, List.drop_eq_nil_of_le (by omega)]; rfl
      go_wp2_with fail
      refine (hbn.out _ _ hA.out hend).mono ?_
      rintro e w1 ⟨rfl, h1⟩
      go_wp2_with fail
      rw [jumps_panic]
      exact ⟨rfl, told_bad hRR.out (hS.out.trans h1)⟩
    have hlt : p + k < l.length := by omega
    obtain ⟨d, hd⟩ : ∃ d, l[p + k]? = some d := ⟨_, List.getElem?_eq_getElem hlt⟩
    have hdr : Hid (l.drop (p + k) = d :: l.drop (p + (k + 1))) := by
      show _ = _
      rw [List.drop_eq_getElem_cons hlt, (List.getElem?_eq_some_iff.1 hd).2, Nat.add_assoc]
    rw [hdr.out, numR] at hN
    have hd8 := d.toNat_lt
    have hb := hid (hbs.out _ _ _ hA.out hd)
    have hand := and127 d.toNat (by omega)
    generalize d.toNat = c at *
    clear hend
    by_cases hbig : 9 ≤ k ∧ 1 < c
    · have hRR : Hid (R = .bad 4) := by
        show _ = _
        rw [← hN.out, if_pos hbig]
      have d1 : decide ((k : Int) < 9) = false := decide_eq_false (by omega)
      have d2 : decide ((c : Int) ≤ 1) = false := decide_eq_false (by omega)
      clear hbig
      go_wp2_with fail
      refine hb.out.mono ?_
      rintro e w1 ⟨rfl, h1, h2⟩
      go_wp2_with fail
      refine (hmn.out _ _).mono ?_
      rintro e w2 ⟨rfl, rfl⟩
      go_wp2_with fail
      rw [jumps_panic]
      exact ⟨rfl, told_bad hRR.out (hS.out.trans h1)⟩
    have hsmall : Hid (k < 9 ∨ c ≤ 1) := by show _ ∨ _; omega
    rw [if_neg hbig] at hN
    clear hbig
    have hk9 : k ≤ 9 := by omega
    obtain ⟨hor, hA1⟩ := or_lem (c := c) hk9 hsmall.out hacc.out
    replace hacc := hid hacc
    obtain ⟨A, hAe⟩ : ∃ A, A = acc + c % 128 * 128 ^ k := ⟨_, rfl⟩
    rw [← hAe] at hor hA1
    replace hor := hid hor
    replace hA1 := hid hA1
    replace hAe := hid hAe
    have hsm := hsmall
    by_cases g1 : 128 ≤ c
    · have f1 : decide (128 ≤ (c : Int)) = true := decide_eq_true (by omega)
      rw [if_pos g1] at hN
      rw [← hAe.out] at hN
      have hk8 : k < 9 := by have := hsm.out; omega
      obtain ⟨m, rfl⟩ : ∃ m, n = m + 1 := ⟨n - 1, by omega⟩
      replace hN : Hid (numR (k + 1) A (List.drop (p + (k + 1)) l) = R) := hN.out
      have hc : k = 0 ∨ k = 1 ∨ k = 2 ∨ k = 3 ∨ k = 4 ∨ k = 5 ∨ k = 6 ∨ k = 7 ∨ k = 8 := by omega
      clear g1 hk8 hk9
      rcases hc with rfl | rfl | rfl | rfl | rfl | rfl | rfl | rfl | rfl
      all_goals
        replace hor := hor.out
        simp only [Nat.reducePow, Int.mul_one, Int.cast_ofNat_Int] at hor
        go_wp2_with fail
        refine hb.out.mono ?_
        rintro e w1 ⟨rfl, h1, h2⟩
        go_wp2_with fail
        refine (hmy.out _ _).mono ?_
        rintro e w2 ⟨rfl, rfl⟩
        go_wp2_with fail
        go_step3
        exact ⟨m, by omega, A, _, _, (num_mk g A _ rfl).choose_spec, rfl, by omega, hA1.out, hN.out, hS.out.trans h1, h2⟩
    rw [if_neg g1] at hN
    have f1 : decide (128 ≤ (c : Int)) = false := decide_eq_false (by omega)
    have hcm : c % 128 = c := by omega
    rw [← hcm, ← hAe.out, hcm] at hN
    rw [show (c : Int) % 128 = c by omega] at hor
    clear hcm
    have hcm : (c : Int) % 128 = c := by omega
    have hc : k = 0 ∨ k = 1 ∨ k = 2 ∨ k = 3 ∨ k = 4 ∨ k = 5 ∨ k = 6 ∨ k = 7 ∨ k = 8 ∨ k = 9 := by omega
    by_cases g0 : c = 0 ∧ 0 < k
    · rw [if_pos g0] at hN
      obtain ⟨rfl, hk0⟩ := g0
      clear g1
      have hRR : Hid (R = .bad 4) := hN.out.symm
      clear hN
      rcases hc with rfl | rfl | rfl | rfl | rfl | rfl | rfl | rfl | rfl | rfl
      · omega
      all_goals
        clear hor
        clear hk0
        go_wp2_with fail
        refine hb.out.mono ?_
        rintro e w1 ⟨rfl, h1, h2⟩
        go_wp2_with fail
        refine (hmy.out _ _).mono ?_
        rintro e w2 ⟨rfl, rfl⟩
        go_wp2_with fail
        refine (hmn.out _ _).mono ?_
        rintro e w2 ⟨rfl, rfl⟩
        go_wp2_with fail
        rw [jumps_panic]
        exact ⟨rfl, told_bad hRR.out (hS.out.trans h1)⟩
    rw [if_neg g0] at hN
    have hRR : Hid (R = .ok A (k + 1)) := hN.out.symm
    clear hN
    rcases Nat.eq_zero_or_pos c with g3 | g3
    · obtain rfl : k = 0 := by omega
      subst g3
      obtain rfl : acc = 0 := by have h : acc < 128 ^ 0 := hacc.out; simp at h; exact h
      obtain rfl : A = 0 := by rw [hAe.out]
      clear g0 g1 hc
      go_wp2_with fail
      refine hb.out.mono ?_
      rintro e w1 ⟨rfl, h1, h2⟩
      go_wp2_with fail
      refine (hmy.out _ _).mono ?_
      rintro e w2 ⟨rfl, rfl⟩
      go_wp2_with fail
      refine (hmy.out _ _).mono ?_
      rintro e w2 ⟨rfl, rfl⟩
      go_wp2_with fail
      go_ret
      exact told_ok hRR.out (hS.out.trans h1) rfl rfl h2
    have q0 : decide (0 < (c : Int)) = true := decide_eq_true (by omega)
    have q1 : ¬ c = 0 := by omega
    clear g0 g1 g3
    rcases hc with rfl | rfl | rfl | rfl | rfl | rfl | rfl | rfl | rfl | rfl
    all_goals
      replace hor := hor.out
      simp only [Nat.reducePow, Int.mul_one, Int.cast_ofNat_Int] at hor
      first
        | (have d2 : decide ((c : Int) ≤ 1) = true := decide_eq_true (by have := hsm.out; omega)
           have hw : IntKind.u64.wrap ((c : Int) * 9223372036854775808) = (c : Int) * 9223372036854775808 := by rw [IntKind.wrap_u64]; have := hsm.out; omega)
        | skip
      go_wp2_with fail
      refine hb.out.mono ?_
      rintro e w1 ⟨rfl, h1, h2⟩
      go_wp2_with fail
      refine (hmy.out _ _).mono ?_
      rintro e w2 ⟨rfl, rfl⟩
      go_wp2_with fail
      refine (hmy.out _ _).mono ?_
      rintro e w2 ⟨rfl, rfl⟩
      go_wp2_with fail
      go_ret
      exact told_ok hRR.out (hS.out.trans h1) rfl rfl h2
  · intro pass
    replace pass := hid pass
    go_wp2_with fail
    go_step3
    rename_i K hK
    refine hK _ _ (pass_use rfl (pass.out 9 0 _ _ ?_))
    refine ⟨0, 0, _, (num_mk g 0 0 ?_).choose_spec, rfl, rfl, by decide, hR.out.symm, Save.refl _ _, h0.out⟩
    rfl
end Go.Proofs.YtihcegakghmdfaaDoor

namespace Go.Proofs.YtihcegakghmdfaaDoor
open Go.RowKit Go.Proofs

/-- A number that may be so great at the most. -/
def manyR (most : Nat) (e : Int) (l : List UInt8) : Got Nat := match numR 0 0 l with
  | .bad e => .bad e
  | .ok n c => if most < n then .bad e else .ok n c

set_option maxRecDepth 100000 in
theorem many_calls (most : Nat) (c : Int) (hm : most ≤ 9223372036854775807) {w : World} {g : Nat} {bv : Value} {l : List UInt8} {p : Nat} (h : At w g bv l p) :
    Calls Tryd.prog 93 #[.pointer (some ⟨g, 0, none⟩), .int .i64 most, .int .i64 c] w (Told (manyR most c (l.drop p)) (fun _ n v => v = .int .i64 (n : Nat) ∧ n ≤ most) w g bv l p) := by
  obtain ⟨R, hR⟩ : ∃ R, R = manyR most c (l.drop p) := ⟨_, rfl⟩
  rw [← hR]
  unfold manyR at hR
  have hn := hid (number_calls h)
  have hmy := hid must_yes
  have hmn := hid must_no
  cases hN : numR 0 0 (l.drop p) with
  | bad e =>
    rw [hN] at hn hR
    replace hR : Hid (R = .bad e) := hR
    clear hN
    go_enter Tryd.func93, Tryd.ntmps93
    go_wp2_with fail
    refine hn.out.mono ?_
    rintro e w1 ⟨h1, rfl⟩
    go_wp2_with fail
    exact ⟨rfl, told_bad hR.out h1⟩
  | ok n k =>
    rw [hN] at hn hR
    simp only at hR
    have hlt := (num_inv hN).1
    clear hN
    have e1 : IntKind.u64.wrap (most : Int) = most := by rw [IntKind.wrap_u64]; omega
    by_cases hle : n ≤ most
    · rw [if_neg (by omega)] at hR
      replace hR := hid hR
      have d1 : decide ((n : Int) ≤ (most : Int)) = true := decide_eq_true (by omega)
      have d2 : decide (n ≤ most) = true := decide_eq_true hle
      have e2 : IntKind.i64.wrap (n : Int) = n := IntWalk.i64_in _ (by omega)
      replace hle := hid hle
      go_enter Tryd.func93, Tryd.ntmps93
      go_wp2_with fail
      refine hn.out.mono ?_
      rintro e w1 ⟨h1, v, rfl, rfl, h2⟩
      go_wp2_with fail
      refine (hmy.out _ _).mono ?_
      rintro e w2 ⟨rfl, rfl⟩
      go_wp2_with fail
      go_ret
      exact told_ok hR.out h1 ⟨rfl, hle.out⟩ rfl h2
    · rw [if_pos (by omega)] at hR
      replace hR := hid hR
      have d1 : decide ((n : Int) ≤ (most : Int)) = false := decide_eq_false (by omega)
      have d2 : decide (n ≤ most) = false := decide_eq_false hle
      clear hle
      go_enter Tryd.func93, Tryd.ntmps93
      go_wp2_with fail
      refine hn.out.mono ?_
      rintro e w1 ⟨h1, v, rfl, rfl, h2⟩
      go_wp2_with fail
      refine (hmn.out _ _).mono ?_
      rintro e w2 ⟨rfl, rfl⟩
      go_wp2_with fail
      exact ⟨rfl, told_bad hR.out h1⟩

theorem At.src_ac {w : World} {g : Nat} {bv : Value} {l : List UInt8} {p : Nat} (h : At w g bv l p) : ∃ a cap, bv = .slice a l.length cap ∧ l.length ≤ cap := by
  obtain ⟨a, cap, h1, h2, _⟩ := h.src
  exact ⟨a, cap, h1, h2⟩
set_option maxRecDepth 100000 in
/-- Bytes of a slice, turned into a text. -/
theorem conv_part {w : World} {S : Nat → Prop} {l : List UInt8} {a : Option Addr} {m cap p n : Nat} (h : BytesAt w S l (.slice a m cap)) (hp : p + n ≤ l.length) :
    (convert 26 9 (sliced a p (p + n) cap 1)).run Tryd.prog w = .ok (.string ⟨((l.drop p).take n).toArray⟩) w := by
  obtain ⟨a', cap', he, h1, h2, h3⟩ := h
  injection he with e1 e2 e3
  subst e1 e2 e3
  have hn : p + n - p = n := by omega
  unfold sliced
  rw [hn, Nat.mul_one]
  by_cases h0 : n = 0
  · subst h0
    cases (if cap = p then a else a.map (·.add p)) with
    | none => exact Lib.run_convert_nil_bytes w 26 9 5 _ Tryd.underlying26 Tryd.underlying5 Tryd.underlying9
    | some ad => exact run_convert_bytes_back w 26 9 5 ad _ [] Tryd.underlying26 Tryd.underlying5 Tryd.underlying9 (fun j hj => by simp at hj)
  · rcases h3 with rfl | ⟨b, off, rfl, _, hc⟩
    · simp at hp; omega
    · rw [if_neg (by omega)]
      have hl : ((l.drop p).take n).length = n := by rw [List.length_take, List.length_drop]; omega
      have hcv := run_convert_bytes_back (P := Tryd.prog) w 26 9 5 ((⟨b, off, none⟩ : Addr).add p) (cap - p) ((l.drop p).take n) Tryd.underlying26 Tryd.underlying5 Tryd.underlying9 (fun j hj => by
        have hx : l[p + j]? = some ((l.drop p).take n)[j] := by
          rw [List.getElem_take, List.getElem_drop, List.getElem?_eq_getElem]
        have := hc (p + j) _ hx
        have ea : ((⟨b, off, none⟩ : Addr).add p).add j = ⟨b, off + (p + j), none⟩ := by
          simp only [Addr.add]
          split <;> split <;> simp_all <;> omega
        rw [ea]; exact this)
      rw [hl] at hcv
      exact hcv

/-- The tables lie in memory ahead of the reader. -/
def Tb (g : Nat) (w : World) : Prop := ∃ w0, Tabs w0 ∧ Below w0.heap.size w0 w ∧ w0.heap.size ≤ g
theorem Tb.save {g : Nat} {w w' : World} (h : Tb g w) (hs : Save g w w') (hg : g < w.heap.size) : Tb g w' := by
  obtain ⟨w0, h1, h2, h3⟩ := h
  exact ⟨w0, h1, h2.trans (hs.below h3 hg), h3⟩
theorem Tb.tabs {g : Nat} {w : World} (h : Tb g w) : Tabs w := by
  obtain ⟨w0, h1, h2, h3⟩ := h
  exact Tabs.stays w0 w h1 h2

set_option maxRecDepth 100000 in
theorem rtext_calls (n : Nat) (hn : n ≤ 4096) {w : World} {g : Nat} {bv : Value} {l : List UInt8} {p : Nat} (h : At w g bv l p) (hT : Tb g w) :
    Calls Tryd.prog 102 #[.pointer (some ⟨g, 0, none⟩), .int .i64 n] w (Told (txtR n (l.drop p)) (fun _ s v => v = .string s) w g bv l p) := by
  obtain ⟨R, hR⟩ : ∃ R, R = txtR n (l.drop p) := ⟨_, rfl⟩
  rw [← hR]
  unfold txtR at hR
  rw [List.length_drop] at hR
  replace hT := hid hT
  have h0 := hid h
  have hle := h.le
  have hlim := h.lim
  have hmy := hid must_yes
  have hmn := hid must_no
  have hbv := hid h.src
  obtain ⟨a, cap, rfl, hcap⟩ := h.src_ac
  have c0 := Later.cell h.cell0
  have c1 := Later.cell h.cell1
  have e1 : IntKind.i64.wrap ((l.length : Int) - (p : Int)) = (l.length : Int) - p := IntWalk.i64_in _ (by omega)
  by_cases hen : l.length - p < n
  · rw [if_pos hen] at hR
    replace hR := hid hR
    have d1 : decide ((n : Int) ≤ (l.length : Int) - (p : Int)) = false := decide_eq_false (by omega)
    go_enter Tryd.func102, Tryd.ntmps102
    go_upto_region 1 with fail
    refine wp_later_tail 12 (by kernel_rfl) (by kernel_rfl) ?_
    simp only [List.take_succ_cons, List.take_zero, List.drop_succ_cons, List.drop_zero]
    repeat (go_big_quiet_step (fail))
    refine wpQuiet_nil ?_
    rintro _ ⟨q, rfl⟩
    clear c0 c1
    go_wp2_with fail
    refine (hmn.out _ _).mono ?_
    rintro e w1 ⟨rfl, rfl⟩
    go_wp2_with fail
    exact ⟨rfl, told_bad hR.out (Save.of_below q.h)⟩
  rw [if_neg hen] at hR
  have d1 : decide ((n : Int) ≤ (l.length : Int) - (p : Int)) = true := decide_eq_true (by omega)
  replace hR := hid hR
  go_enter Tryd.func102, Tryd.ntmps102
  go_upto_region 1 with fail
  refine wp_later_tail 12 (by kernel_rfl) (by kernel_rfl) ?_
  simp only [List.take_succ_cons, List.take_zero, List.drop_succ_cons, List.drop_zero]
  repeat (go_big_quiet_step (fail))
  refine wpQuiet_nil ?_
  rintro _ ⟨q, rfl⟩
  have h1 := hid (h0.out.later q.h)
  replace c0 := Later.cell h1.out.cell0
  replace c1 := Later.cell h1.out.cell1
  have e2 : IntKind.i64.wrap ((p : Int) + (n : Int)) = ((p + n : Nat) : Int) := by rw [IntWalk.i64_in _ (by omega)]; omega
  go_wp2_with fail
  refine (hmy.out _ _).mono ?_
  rintro e w1 ⟨rfl, rfl⟩
  obtain ⟨X, hX⟩ : ∃ X : ByteArray, X = ⟨((l.drop p).take n).toArray⟩ := ⟨_, rfl⟩
  obtain ⟨A, hif⟩ : ∃ A, (if cap = p then a else Option.map (fun x => x.add p) a) = A := ⟨_, rfl⟩
  have hcv : ∀ q2 : Later q.x, (convert 26 9 (.slice A n (cap - p))).run Tryd.prog q2.x = .ok (.string X) q2.x := fun q2 => by
    have := conv_part (p := p) (n := n) ((h1.out.later q2.h).src) (by omega)
    rw [← hX, sliced, Nat.mul_one, show p + n - p = n by omega, hif] at this
    exact this
  rw [← hX] at hR
  replace hX := hid hX
  go_upto_region 2 with fail
  refine wp_later (by kernel_rfl) (by kernel_rfl) ?_
  have f1 : (p : Int) ≤ (p : Int) + (n : Int) := by omega
  have f2 : (p : Int) + (n : Int) ≤ (cap : Int) := by omega
  have f3 : ((p : Int) + (n : Int)).toNat = p + n := by omega
  repeat (go_big_quiet_step (fail))
  refine wpQuiet_nil ?_
  rintro _ ⟨q2, rfl⟩
  clear hcv f1 f2 f3
  have h2 := hid (h1.out.later q2.h)
  have c0 := h2.out.cell0
  have c1 := h2.out.cell1
  have fz := h2.out.free
  go_upto_region 4 with fail
  have h3 := hid (h2.out.set (q := p + n) (by omega) (z := (p : Int) + (n : Int)) (by omega))
  have hS := hid (((Save.of_below q.h).trans (Save.of_below q2.h)).trans (Save.set q2.x g 1 (.int .i64 ((p : Int) + (n : Int)))))
  clear hif
  generalize q2.x.setCell ⟨g, 1, none⟩ (.int .i64 ((p : Int) + (n : Int))) = w3 at *
  have hX1 : X.data.toList = (l.drop p).take n := by rw [hX.out]
  have hXs : X.size ≤ 4096 := by
    have : X.data.toList.length = X.size := by simp
    rw [hX1, List.length_take] at this
    omega
  have hT3 := (hT.out.save hS.out h0.out.lt).tabs
  have hv := hid (valid_calls X w3 (by omega) hT3)
  have hu : utf X = Lib.validD ((l.drop p).take n) := by unfold utf; rw [hX1]
  rw [← hu] at hR
  clear hX1 hXs hT3 hu
  cases hV : utf X with
  | false =>
    rw [hV] at hv hR
    replace hR : Hid (R = .bad 11) := hR
    replace hV := hid hV
    go_wp2_with fail
    refine hv.out.mono ?_
    rintro e w4 ⟨rfl, h4⟩
    go_wp2_with fail
    refine (hmn.out _ _).mono ?_
    rintro e w5 ⟨rfl, rfl⟩
    go_wp2_with fail
    exact ⟨rfl, told_bad hR.out (hS.out.trans (Save.of_below h4))⟩
  | true =>
    rw [hV] at hv hR
    replace hR : Hid (R = .ok X n) := hR
    replace hV := hid hV
    go_wp2_with fail
    refine hv.out.mono ?_
    rintro e w4 ⟨rfl, h4⟩
    go_wp2_with fail
    refine (hmy.out _ _).mono ?_
    rintro e w5 ⟨rfl, rfl⟩
    go_wp2_with fail
    go_ret
    exact told_ok hR.out (hS.out.trans (Save.of_below h4)) rfl rfl (h3.out.later h4)

set_option maxRecDepth 100000 in
theorem rname_calls {w : World} {g : Nat} {bv : Value} {l : List UInt8} {p : Nat} (h : At w g bv l p) (hT : Tb g w) :
    Calls Tryd.prog 103 #[.pointer (some ⟨g, 0, none⟩)] w (Told (strR 1 24 15 (l.drop p)) (fun _ s v => v = .string s) w g bv l p) := by
  obtain ⟨R, hR⟩ : ∃ R, R = strR 1 24 15 (l.drop p) := ⟨_, rfl⟩
  rw [← hR]
  unfold strR at hR
  have hm := hid (many_calls 24 15 (by omega) h)
  unfold manyR at hm
  have hmy := hid must_yes
  have hmn := hid must_no
  have h0 := hid h
  have hx := hid (fun w (n : Nat) (p : Nat) (hn : n ≤ 4096) (h : At w g bv l p) (hT : Tb g w) => rtext_calls n hn h hT)
  have hT := hid hT
  cases hN : numR 0 0 (l.drop p) with
  | bad e =>
    rw [hN] at hm hR
    replace hR : Hid (R = .bad e) := hR
    clear hN
    go_enter Tryd.func103, Tryd.ntmps103
    go_wp2_with fail
    refine hm.out.mono ?_
    rintro e w1 ⟨h1, rfl⟩
    go_wp2_with fail
    exact ⟨rfl, told_bad hR.out h1⟩
  | ok n k =>
    rw [hN] at hm hR
    simp only at hR hm
    clear hN
    by_cases hbig : 24 < n
    · rw [if_pos hbig] at hm
      rw [if_pos (.inr hbig)] at hR
      replace hR := hid hR
      clear hbig
      go_enter Tryd.func103, Tryd.ntmps103
      go_wp2_with fail
      refine hm.out.mono ?_
      rintro e w1 ⟨h1, rfl⟩
      go_wp2_with fail
      exact ⟨rfl, told_bad hR.out h1⟩
    rw [if_neg hbig] at hm
    by_cases h0n : n = 0
    · subst h0n
      rw [if_pos (.inl (by omega))] at hR
      replace hR := hid hR
      clear hbig
      go_enter Tryd.func103, Tryd.ntmps103
      go_wp2_with fail
      refine hm.out.mono ?_
      rintro e w1 ⟨h1, v, rfl, ⟨rfl, _⟩, h2⟩
      go_wp2_with fail
      refine (hmn.out _ _).mono ?_
      rintro e w5 ⟨rfl, rfl⟩
      go_wp2_with fail
      exact ⟨rfl, told_bad hR.out h1⟩
    · rw [if_neg (by omega)] at hR
      replace hR := hid hR
      have q0 : decide (0 < (n : Int)) = true := decide_eq_true (by omega)
      have q1 : decide (0 < n) = true := decide_eq_true (by omega)
      have hnl : n ≤ 4096 := by omega
      replace hnl := hid hnl
      clear hbig h0n
      go_enter Tryd.func103, Tryd.ntmps103
      go_wp2_with fail
      refine hm.out.mono ?_
      rintro e w1 ⟨h1, v, rfl, ⟨rfl, _⟩, h2⟩
      go_wp2_with fail
      refine (hmy.out _ _).mono ?_
      rintro e w5 ⟨rfl, rfl⟩
      have hx1 := hid (hx.out _ n _ hnl.out h2 (hT.out.save h1 h0.out.lt))
      rw [show l.drop (p + k) = (l.drop p).drop k by rw [List.drop_drop]] at hx1
      cases hX : txtR n ((l.drop p).drop k) with
      | bad e =>
        rw [hX] at hx1 hR
        replace hR : Hid (R = .bad e) := hR
        clear hX
        go_wp2_with fail
        refine hx1.out.mono ?_
        rintro e w2 ⟨h3, rfl⟩
        go_wp2_with fail
        exact ⟨rfl, told_bad hR.out (h1.trans h3)⟩
      | ok s j =>
        rw [hX] at hx1 hR
        replace hR : Hid (R = .ok s (k + j)) := hR
        clear hX
        go_wp2_with fail
        refine hx1.out.mono ?_
        rintro e w2 ⟨h3, v, rfl, rfl, h4⟩
        go_wp2_with fail
        go_ret
        exact told_ok hR.out (h1.trans h3) rfl (Nat.add_assoc _ _ _) h4
end Go.Proofs.YtihcegakghmdfaaDoor
