/-
  Walks: path.field (slices.BinarySearchFunc at fields whose names rise), path.step.
  Walk: path.step, at a value whose names rise.
-/
import Derived.Test.YthjihdpleclejaaGreatDoorMgPthP
import Derived.Test.YthjihdpleclejaaGreatDoorMgPthV
import Derived.Test.YthjihdpleclejaaGreatDoorMgCpy
import Derived.WalkLawsBesides
import Derived.WalkArith
namespace Go.Proofs.YthjihdpleclejaaGreatDoor
open Go.RowKit Go.Proofs
theorem fcmp_calls (a nm : ByteArray) (v0 v1 v2 v3 v4 : Value) (w : World) :
  Calls Tryz.prog 83 #[.agg #[.string a, v0, v1, v2, v3, v4], .string nm] w fun e w' => e = .returned (.int .i64 (scmp a nm)) ∧ Below w.heap.size w w' := by
 have hc := hid (fun w => Tryz.strings_Compare a nm w)
 unfold scmp
 have D := hid (below_new w (.cells #[.string a, v0, v1, v2, v3, v4] 54))
 go_enter Tryz.func83, Tryz.ntmps83
 go_wp2_with fail
 refine (hc.out _).mono ?_
 rintro e w1 ⟨rfl, rfl⟩
 go_wp2_with fail
 go_ret
 exact ⟨rfl, D.out⟩
theorem up_get {fn : List ByteArray} (h : Up fn) {i j : Nat} {a b : ByteArray} (ha : fn[i]? = some a) (hb : fn[j]? = some b) (hij : i < j) : scmp a b < 0 := by
 have h1 := List.getElem?_eq_some_iff.1 ha
 have h2 := List.getElem?_eq_some_iff.1 hb
 have := List.pairwise_iff_getElem.1 h i j h1.1 h2.1 hij
 rw [h1.2, h2.2] at this
 exact this
theorem less_half {fn : List ByteArray} {nm : ByteArray} (h : Up fn) {m : Nat} {b : ByteArray} (hb : fn[m]? = some b) (hl : scmp b nm < 0) : ∀ (t : Nat) a, t < m + 1 → fn[t]? = some a → scmp a nm < 0 := fun t a ht ha => by
 by_cases e : t = m
 ·subst e
  rw [hb] at ha
  injection ha with ha
  exact ha ▸ hl
 ·have h1 := up_get h ha hb (by omega)
  exact (scmp_trans (Int.le_of_lt h1) (Int.le_of_lt hl)).2.1 h1
set_option maxRecDepth 100000 in
set_option maxHeartbeats 4000000 in
theorem bsearch_calls (nm : ByteArray) {w : World} {fn : List ByteArray} {fv : List PVal} {S : Nat → Prop} {fa : Option Addr} {fc : Nat} (hS : ∀ b, S b → Now w b) (hF : RdF w S fn fv (.slice fa fv.length fc)) (hu : Up fn) :
  Calls Tryz.prog 82 #[.slice fa fv.length fc, .string nm, .func (.func 83) #[] #[]] w fun e w' =>
   e = .returned (.tuple #[.int .i64 (posP nm fn), .bool (decide (fn[posP nm fn]? = some nm))]) ∧ Below w.heap.size w w' := by
 have hlen := hF.1
 have hlim : fv.length ≤ 1466015503701 := by
  obtain ⟨_, _, _, _, _, _, _, h, _⟩ := hF
  exact h.2
 have hcm := hid (fun a v0 v1 v2 v3 v4 w => fcmp_calls a nm v0 v1 v2 v3 v4 w)
 have hgo := enters_of Tryz.func83 (by kernel_rfl) rfl
 have hrow : ∀ (i : Nat), i < fv.length → ∃ (a : ByteArray) (b off : Nat) (v0 v1 v2 v3 v4 : Value), fn[i]? = some a ∧ fa = some ⟨b, off, none⟩ ∧ ∀ w', Below w.heap.size w w' → w'.cell? ⟨b, off + i * 6, none⟩ = some (.string a) ∧ w'.cell? ⟨b, off + i * 6 + 1, none⟩ = some v0 ∧ w'.cell? ⟨b, off + i * 6 + 2, none⟩ = some v1 ∧ w'.cell? ⟨b, off + i * 6 + 3, none⟩ = some v2 ∧ w'.cell? ⟨b, off + i * 6 + 4, none⟩ = some v3 ∧ w'.cell? ⟨b, off + i * 6 + 5, none⟩ = some v4 := fun i hi => by
  obtain ⟨a, ha⟩ : ∃ a, fn[i]? = some a := ⟨_, List.getElem?_eq_getElem (by omega)⟩
  obtain ⟨x, hx⟩ : ∃ x, fv[i]? = some x := ⟨_, List.getElem?_eq_getElem hi⟩
  obtain ⟨b, off, cs, h1, h2, h3, h4, _⟩ := hF.at_ ha hx
  obtain ⟨k, n, s, l, fn', fv'⟩ := x
  obtain ⟨ya, yc, za, zc, rfl, _⟩ := h4.inv
  refine ⟨a, b, off, .int .i64 k, .int .i64 n, .string s, .slice ya l.length yc, .slice za fv'.length zc, ha, h1, fun w' hb => ?_⟩
  have hc := six (i := i) (sz := 6) h3
  have hbb := hS b h2
  exact ⟨(hb.cell (p := ⟨b, _, none⟩) hbb).trans hc.1, (hb.cell (p := ⟨b, _, none⟩) hbb).trans hc.2.1, (hb.cell (p := ⟨b, _, none⟩) hbb).trans hc.2.2.1, (hb.cell (p := ⟨b, _, none⟩) hbb).trans hc.2.2.2.1, (hb.cell (p := ⟨b, _, none⟩) hbb).trans hc.2.2.2.2.1, (hb.cell (p := ⟨b, _, none⟩) hbb).trans hc.2.2.2.2.2⟩
 replace hrow := hid hrow
 obtain ⟨q, hq⟩ : ∃ q : Bool, q = decide (fn[posP nm fn]? = some nm) := ⟨_, rfl⟩
 obtain ⟨p, hp⟩ : ∃ p, p = posP nm fn := ⟨_, rfl⟩
 rw [← hq, ← hp]
 rw [← hp] at hq
 have hpos : Hid (∀ i, i ≤ fn.length → (∀ (t : Nat) a, t < i → fn[t]? = some a → scmp a nm < 0) → (∀ a, fn[i]? = some a → 0 ≤ scmp a nm) → p = i) := fun i h h1 h2 => by
  rw [hp]; exact posP_is nm fn i h h1 (fun a ha => by have := h2 a ha; omega)
 replace hq := hid hq
 clear hp
 have hu := hid hu
 have hpl := hid (fun (m : Nat) b hb hl => less_half (nm := nm) hu.out (m := m) (b := b) hb hl)
 clear hF
 go_enter Tryz.func82, Tryz.ntmps82
 go_wp2_with fail
 go_loopg [9, 10] fv.length (fun g lo hi wr => ∃ (i j : Nat), g + i = j ∧ j ≤ fv.length ∧ lo = .int .i64 i ∧ hi = .int .i64 j ∧ (∀ (t : Nat) a, t < i → fn[t]? = some a → scmp a nm < 0) ∧ (∀ a, fn[j]? = some a → ¬ scmp a nm < 0) ∧ Below w.heap.size w wr)
 case atStart => exact ⟨0, fv.length, by omega, Nat.le_refl _, rfl, rfl, fun t a h => by omega, fun a h => by have := (List.getElem?_eq_some_iff.1 h).1; omega, Below.refl _ _⟩
 case round =>
  obtain ⟨i, j, hg, hj, rfl, rfl, hlo, hhi, hb⟩ := hrel
  replace hlo := hid hlo
  replace hhi := hid hhi
  replace hb := hid hb
  by_cases hij : i < j
  ·obtain ⟨m, hm⟩ : ∃ m, m = (i + j) / 2 := ⟨_, rfl⟩
   have e1 : IntKind.i64.wrap ((i : Int) + (j : Int)) = (i : Int) + (j : Int) := by rw [IntWalk.i64_in _ (by omega)]
   have e2 : IntKind.u64.wrap ((i : Int) + (j : Int)) = (i : Int) + (j : Int) := by rw [IntKind.wrap_u64]; omega
   have e3 : ((i : Int) + (j : Int)) / 2 = (m : Int) := by omega
   have e4 : IntKind.i64.wrap (m : Int) = (m : Int) := by rw [IntWalk.i64_in _ (by omega)]
   obtain ⟨a, b, off, v0, v1, v2, v3, v4, ha, rfl, hcell⟩ := hrow.out m (by omega)
   obtain ⟨c0, c1, c2, c3, c4, c5⟩ := hcell wr hb.out
   clear hcell
   have hmi := hid (show i ≤ m ∧ m < j ∧ m < fv.length by omega)
   have hmi1 : (m : Int) < (fv.length : Int) := by omega
   clear hm
   go_wp2_with fail
   refine (hcm.out _ _ _ _ _ _ _).mono ?_
   rintro e w2 ⟨rfl, hb2⟩
   replace hb2 := hid (hb.out.step hb2)
   clear c0 c1 c2 c3 c4 c5
   by_cases hl : scmp a nm < 0
   ·have e5 : IntKind.i64.wrap ((m : Int) + 1) = (m : Int) + 1 := by rw [IntWalk.i64_in _ (by have := hmi.out; omega)]
    have hnew := hid (hpl.out m a ha hl)
    clear ha
    go_wp2_with fail
    go_roundg (j - (m + 1))
    case measure => have := hmi.out; omega
    case rel => exact ⟨m + 1, j, by have := hmi.out; omega, hj, by go_num, rfl, hnew.out, hhi.out, hb2.out⟩
   ·have hnew : Hid (∀ a, fn[m]? = some a → ¬ scmp a nm < 0) := fun a' ha' => by
     rw [ha] at ha'
     injection ha' with ha'
     exact ha' ▸ hl
    clear ha
    go_wp2_with fail
    go_roundg (m - i)
    case measure => have := hmi.out; omega
    case rel => exact ⟨i, m, by have := hmi.out; omega, by have := hmi.out; omega, rfl, rfl, hlo.out, hnew.out, hb2.out⟩
  ·obtain rfl : i = j := by omega
   have hpi : p = i := hpos.out i (by omega) hlo.out (fun a ha => by have := hhi.out a ha; omega)
   subst hpi
   clear hlo hpos hpl
   by_cases hin : p < fv.length
   ·have hini : (p : Int) < (fv.length : Int) := by omega
    obtain ⟨a, b, off, v0, v1, v2, v3, v4, ha, rfl, hcell⟩ := hrow.out p hin
    obtain ⟨c0, c1, c2, c3, c4, c5⟩ := hcell wr hb.out
    clear hcell
    have hd : q = decide (scmp a nm = 0) := by
     rw [hq.out, ha]
     refine decide_eq_decide.2 ?_
     rw [scmp_zero]
     constructor
     ·intro h; injection h
     ·intro h; rw [h]
    clear hq ha hhi
    by_cases hz : scmp a nm = 0
    ·rw [decide_eq_true hz] at hd
     subst hd
     have hzi : (scmp a nm == 0) = true := beq_iff_eq.2 hz
     clear hz
     go_wp2_with fail
     refine (hcm.out _ _ _ _ _ _ _).mono ?_
     rintro e w2 ⟨rfl, hb2⟩
     replace hb2 := hid (hb.out.step hb2)
     clear c0 c1 c2 c3 c4 c5
     go_wp2_with fail
     go_returns
     exact ⟨rfl, hb2.out⟩
    ·rw [decide_eq_false hz] at hd
     subst hd
     have hzi : (scmp a nm == 0) = false := beq_false_of_ne hz
     clear hz
     go_wp2_with fail
     refine (hcm.out _ _ _ _ _ _ _).mono ?_
     rintro e w2 ⟨rfl, hb2⟩
     replace hb2 := hid (hb.out.step hb2)
     clear c0 c1 c2 c3 c4 c5
     go_wp2_with fail
     go_returns
     exact ⟨rfl, hb2.out⟩
   ·have hini : ¬ (p : Int) < (fv.length : Int) := by omega
    have hd : q = false := by
     rw [hq.out, List.getElem?_eq_none (by omega)]; rfl
    subst hd
    clear hq hhi
    go_wp2_with fail
    go_returns
    exact ⟨rfl, hb.out⟩
set_option maxRecDepth 100000 in
set_option maxHeartbeats 2000000 in
theorem field_calls (nm : ByteArray) {w : World} {V : PVal} {cs : List Value} {S : Nat → Prop} (hS : ∀ b, S b → Now w b) (hV : Rd w S V cs) (hu : Up V.fn) :
  Calls Tryz.prog 56 #[.agg cs.toArray, .string nm] w fun e w' =>
   e = .returned (.tuple #[.int .i64 (posP nm V.fn), .bool (decide (V.fn[posP nm V.fn]? = some nm))]) ∧ Below w.heap.size w w' := by
 obtain ⟨q, hq⟩ : ∃ q : Bool, q = decide (V.fn[posP nm V.fn]? = some nm) := ⟨_, rfl⟩
 obtain ⟨p, hp⟩ : ∃ p, p = posP nm V.fn := ⟨_, rfl⟩
 rw [← hq, ← hp]
 obtain ⟨k, n, s, l, fn, fv⟩ := V
 obtain ⟨la, lc, fa, fc, rfl, _, _, _, _, _, _, _, _, hF⟩ := hV.inv
 have hF0 := hid hF
 have D := hid (below_new w (.cells #[.int .i64 k, .int .i64 n, .string s, .slice la l.length lc, .slice fa fv.length fc] 25))
 have hbs : Hid (∀ w', Below w.heap.size w w' → Calls Tryz.prog 82 #[.slice fa fv.length fc, .string nm, .func (.func 83) #[] #[]] w' fun e w2 => e = .returned (.tuple #[.int .i64 p, .bool q]) ∧ Below w'.heap.size w' w2) := fun w' hb => by
  have h := bsearch_calls nm (w := w') (S := S) (fun b h => Nat.lt_of_lt_of_le (hS b h) hb.size) (hF0.out.keep (S' := S) (fun _ h => h) (fun b h => hb.block b (hS b h))) hu
  rw [hq, hp]
  exact h
 clear hF hV hq hp
 go_enter Tryz.func56, Tryz.ntmps56
 go_wp2_with fail
 refine (hbs.out _ D.out).mono ?_
 rintro e w1 ⟨rfl, h1⟩
 go_wp2_with fail
 go_returns
 exact ⟨rfl, D.out.step h1⟩
end Go.Proofs.YthjihdpleclejaaGreatDoor
namespace Go.Proofs.YthjihdpleclejaaGreatDoor
open Go.RowKit Go.Proofs
theorem rd_zeroP {w : World} {S : Nat → Prop} : Rd w S zeroP [.int .i64 0, .int .i64 0, .string ByteArray.empty, .slice none 0 0, .slice none 0 0] := rd_flat _ _ ⟨by decide, by decide⟩ ⟨by decide, by decide⟩ (by decide)
def Stepd (R : Option PVal) (S : Nat → Prop) (w : World) (e : Ending) (w' : World) : Prop := ∃ cs, e = .returned (.tuple #[.agg cs.toArray, .bool R.isSome]) ∧ Below w.heap.size w w' ∧ Rd w' S (R.getD zeroP) cs
set_option maxRecDepth 100000 in
set_option maxHeartbeats 4000000 in
theorem step_calls (s : ByteArray) (hs : s.size ≤ 140737488355328) {w : World} {V : PVal} {cs : List Value} {S : Nat → Prop} (hS : ∀ b, S b → Now w b) (hV : Rd w S V cs) (hu : Up V.fn) :
  Calls Tryz.prog 32 #[.agg cs.toArray, .string s] w (Stepd (leads V s) S w) := by
 have hpl := hid (fun w => place_calls s w hs)
 have hV0 := hid hV
 have hS0 := hid hS
 have hfi : Hid (∀ w', Below w.heap.size w w' → Calls Tryz.prog 56 #[.agg cs.toArray, .string s] w' fun e w2 => e = .returned (.tuple #[.int .i64 (posP s V.fn), .bool (decide (V.fn[posP s V.fn]? = some s))]) ∧ Below w'.heap.size w' w2) := fun w' hb =>
  field_calls s (S := S) (fun b h => Nat.lt_of_lt_of_le (hS b h) hb.size) (hV.keep (S' := S) (fun _ h => h) (fun b h => hb.block b (hS b h))) hu
 have hfp := find_pos s V.fn V.fv hu
 unfold Stepd
 obtain ⟨R, hR⟩ : ∃ R, R = leads V s := ⟨_, rfl⟩
 rw [← hR]
 unfold leads at hR
 obtain ⟨Q, hQ⟩ : ∃ Q, Q = place s := ⟨_, rfl⟩
 rw [← hQ] at hpl hR
 replace hR := hid hR
 clear hQ
 obtain ⟨q, hq⟩ : ∃ q : Bool, q = decide (V.fn[posP s V.fn]? = some s) := ⟨_, rfl⟩
 obtain ⟨p, hp⟩ : ∃ p, p = posP s V.fn := ⟨_, rfl⟩
 rw [← hq, ← hp] at hfi
 rw [← hp] at hq hfp
 replace hq := hid hq
 replace hfp := hid hfp
 clear hp hu hS
 obtain ⟨k, n, str, l, fn, fv⟩ := V
 obtain ⟨la, lc, fa, fc, rfl, _, _, _, _, hlm, _, hfm, hL, hF⟩ := hV.inv
 replace hL := hid hL
 replace hF := hid hF
 have hll := hid hlm.2
 have hfl := hid hfm.2
 clear hV hlm hfm
 have D := hid ((below_new w (.cells #[.int .i64 k, .int .i64 n, .string str, .slice la l.length lc, .slice fa fv.length fc] 25)).step (below_new _ (.cells #[.int .i64 0, .int .i64 0, .string ⟨#[]⟩, .slice none 0 0, .slice none 0 0] 25)))
 have r0 := hid ((below_new (w.alloc (.cells #[.int .i64 k, .int .i64 n, .string str, .slice la l.length lc, .slice fa fv.length fc] 25)) (.cells #[.int .i64 0, .int .i64 0, .string ⟨#[]⟩, .slice none 0 0, .slice none 0 0] 25)).block w.heap.size (by simp) |>.trans (heap_alloc_new w (.cells #[.int .i64 k, .int .i64 n, .string str, .slice la l.length lc, .slice fa fv.length fc] 25)))
 have r1 : Hid (((w.alloc (.cells #[.int .i64 k, .int .i64 n, .string str, .slice la l.length lc, .slice fa fv.length fc] 25)).alloc (.cells #[.int .i64 0, .int .i64 0, .string ⟨#[]⟩, .slice none 0 0, .slice none 0 0] 25)).heap[w.heap.size + 1]? = some (.cells #[.int .i64 0, .int .i64 0, .string ⟨#[]⟩, .slice none 0 0, .slice none 0 0] 25 (0, 0))) := al_at (by simp)
 go_enter Tryz.func32, Tryz.ntmps32
 go_upto_region 1 with fail
 obtain ⟨w1, hw1⟩ : ∃ w1, w1 = (w.alloc (.cells #[.int .i64 k, .int .i64 n, .string str, .slice la l.length lc, .slice fa fv.length fc] 25)).alloc (.cells #[.int .i64 0, .int .i64 0, .string ⟨#[]⟩, .slice none 0 0, .slice none 0 0] 25) := ⟨_, rfl⟩
 rw [← hw1] at D r0 r1 ⊢
 clear hw1
 go_wp2_with fail
 refine (hpl.out _).mono ?_
 rintro e w2 ⟨nn, rfl, h2, hnn⟩
 replace D := hid (D.out.step h2)
 replace r0 := hid ((h2.block _ (lt_of_block r0.out)).trans r0.out)
 replace r1 := hid ((h2.block _ (lt_of_block r1.out)).trans r1.out)
 clear h2
 cases Q with
 | some m =>
  obtain rfl := hnn m rfl
  clear hnn
  have hR2 : R = if k = 5 then l[m]? else none := hR.out
  by_cases hk : k = 5
  ·subst hk
   by_cases hm : m < l.length
   ·obtain ⟨x, hx⟩ : ∃ x, l[m]? = some x := ⟨_, List.getElem?_eq_getElem hm⟩
    have hmi : ¬ (l.length : Int) ≤ (m : Int) := by omega
    have hmj : (m : Int) < (l.length : Int) := by omega
    obtain ⟨b, off, cs, rfl, hSb, hcell, hrd⟩ := RdL.at_ hL.out hx
    obtain ⟨xk, xn, xt, xl, xfn, xfv⟩ := x
    obtain ⟨ya, yc, za, zc, rfl, _⟩ := hrd.inv
    have hbb := hS0.out b hSb
    obtain ⟨e0, e1, e2, e3, e4⟩ := five hcell
    replace e0 := (D.out.cell (p := ⟨b, _, none⟩) hbb).trans e0
    replace e1 := (D.out.cell (p := ⟨b, _, none⟩) hbb).trans e1
    replace e2 := (D.out.cell (p := ⟨b, _, none⟩) hbb).trans e2
    replace e3 := (D.out.cell (p := ⟨b, _, none⟩) hbb).trans e3
    replace e4 := (D.out.cell (p := ⟨b, _, none⟩) hbb).trans e4
    rw [if_pos rfl, hx] at hR2
    subst hR2
    replace hrd := hid hrd
    clear hcell hx hSb hfi hpl hV0 hL hF hq hfp hR
    have c0 := box_at (j := 0) r1.out rfl
    have c1 := box_at (j := 1) r1.out rfl
    have c2 := box_at (j := 2) r1.out rfl
    have c3 := box_at (j := 3) r1.out rfl
    have c4 := box_at (j := 4) r1.out rfl
    have f0 := box_free r1.out
    have b0 := box_at (j := 0) r0.out rfl
    have b1 := box_at (j := 1) r0.out rfl
    have b2 := box_at (j := 2) r0.out rfl
    have b3 := box_at (j := 3) r0.out rfl
    have b4 := box_at (j := 4) r0.out rfl
    go_wp2_with fail
    clear c0 c1 c2 c3 c4 f0 b0 b1 b2 b3 b4
    clear e0 e1 e2 e3 e4
    have hbz := hid (set5_below D.out (Nat.le_succ _) (.int .i64 xk) (.int .i64 xn) (.string xt) (.slice ya xl.length yc) (.slice za xfv.length zc))
    have rz := hid (set5_box (u0 := .int .i64 xk) (u1 := .int .i64 xn) (u2 := .string xt) (u3 := .slice ya xl.length yc) (u4 := .slice za xfv.length zc) r1.out)
    unfold set5 at hbz rz
    have hkp := hid (fun b (hb : b < w.heap.size) => set5_other w2 (w.heap.size + 1) (.int .i64 xk) (.int .i64 xn) (.string xt) (.slice ya xl.length yc) (.slice za xfv.length zc) (b := b) (by omega))
    unfold set5 at hkp
    generalize ((((w2.setCell ⟨w.heap.size + 1, 0, none⟩ (.int .i64 xk)).setCell ⟨w.heap.size + 1, 1, none⟩ (.int .i64 xn)).setCell ⟨w.heap.size + 1, 2, none⟩ (.string xt)).setCell ⟨w.heap.size + 1, 3, none⟩ (.slice ya xl.length yc)).setCell ⟨w.heap.size + 1, 4, none⟩ (.slice za xfv.length zc) = w9 at *
    have z0 := box_at (j := 0) rz.out rfl
    have z1 := box_at (j := 1) rz.out rfl
    have z2 := box_at (j := 2) rz.out rfl
    have z3 := box_at (j := 3) rz.out rfl
    have z4 := box_at (j := 4) rz.out rfl
    refine ⟨rfl, _, by simp [results, Tryz.results32, go_sem, z0, z1, z2, z3, z4] <;> exact ⟨rfl, rfl⟩, [.int .i64 xk, .int .i64 xn, .string xt, .slice ya xl.length yc, .slice za xfv.length zc], rfl, hbz.out, ?_⟩
    exact hrd.out.keep (fun _ h => h) (fun b hb => (hkp.out b (hS0.out b hb)).trans (D.out.block b (hS0.out b hb)))
   ·have hmi : (l.length : Int) ≤ (m : Int) := by omega
    rw [if_pos rfl, List.getElem?_eq_none (by omega)] at hR2
    subst hR2
    clear hfi hpl hV0 hL hF hq hfp hR
    have c0 := box_at (j := 0) r1.out rfl
    have c1 := box_at (j := 1) r1.out rfl
    have c2 := box_at (j := 2) r1.out rfl
    have c3 := box_at (j := 3) r1.out rfl
    have c4 := box_at (j := 4) r1.out rfl
    have f0 := box_free r1.out
    have b0 := box_at (j := 0) r0.out rfl
    have b1 := box_at (j := 1) r0.out rfl
    have b2 := box_at (j := 2) r0.out rfl
    have b3 := box_at (j := 3) r0.out rfl
    have b4 := box_at (j := 4) r0.out rfl
    go_wp2_with fail
    clear c0 c1 c2 c3 c4 f0 b0 b1 b2 b3 b4
    have hbz := hid (set5_below D.out (Nat.le_succ _) (.int .i64 0) (.int .i64 0) (.string ⟨#[]⟩) (.slice none 0 0) (.slice none 0 0))
    have rz := hid (set5_box (u0 := .int .i64 0) (u1 := .int .i64 0) (u2 := .string ⟨#[]⟩) (u3 := .slice none 0 0) (u4 := .slice none 0 0) r1.out)
    unfold set5 at hbz rz
    have hkp := hid (fun b (hb : b < w.heap.size) => set5_other w2 (w.heap.size + 1) (.int .i64 0) (.int .i64 0) (.string ⟨#[]⟩) (.slice none 0 0) (.slice none 0 0) (b := b) (by omega))
    unfold set5 at hkp
    generalize ((((w2.setCell ⟨w.heap.size + 1, 0, none⟩ (.int .i64 0)).setCell ⟨w.heap.size + 1, 1, none⟩ (.int .i64 0)).setCell ⟨w.heap.size + 1, 2, none⟩ (.string ⟨#[]⟩)).setCell ⟨w.heap.size + 1, 3, none⟩ (.slice none 0 0)).setCell ⟨w.heap.size + 1, 4, none⟩ (.slice none 0 0) = w9 at *
    have z0 := box_at (j := 0) rz.out rfl
    have z1 := box_at (j := 1) rz.out rfl
    have z2 := box_at (j := 2) rz.out rfl
    have z3 := box_at (j := 3) rz.out rfl
    have z4 := box_at (j := 4) rz.out rfl
    refine ⟨rfl, _, by simp [results, Tryz.results32, go_sem, z0, z1, z2, z3, z4] <;> exact ⟨rfl, rfl⟩, [.int .i64 0, .int .i64 0, .string ⟨#[]⟩, .slice none 0 0, .slice none 0 0], rfl, hbz.out, ?_⟩
    exact rd_zeroP
  ·have hki : (k != 5) = true := by simp [hk]
   rw [if_neg hk] at hR2
   subst hR2
   clear hfi hpl hV0 hL hF hq hfp hR hk
   have c0 := box_at (j := 0) r1.out rfl
   have c1 := box_at (j := 1) r1.out rfl
   have c2 := box_at (j := 2) r1.out rfl
   have c3 := box_at (j := 3) r1.out rfl
   have c4 := box_at (j := 4) r1.out rfl
   have f0 := box_free r1.out
   have b0 := box_at (j := 0) r0.out rfl
   have b1 := box_at (j := 1) r0.out rfl
   have b2 := box_at (j := 2) r0.out rfl
   have b3 := box_at (j := 3) r0.out rfl
   have b4 := box_at (j := 4) r0.out rfl
   go_wp2_with fail
   clear c0 c1 c2 c3 c4 f0 b0 b1 b2 b3 b4
   have hbz := hid (set5_below D.out (Nat.le_succ _) (.int .i64 0) (.int .i64 0) (.string ⟨#[]⟩) (.slice none 0 0) (.slice none 0 0))
   have rz := hid (set5_box (u0 := .int .i64 0) (u1 := .int .i64 0) (u2 := .string ⟨#[]⟩) (u3 := .slice none 0 0) (u4 := .slice none 0 0) r1.out)
   unfold set5 at hbz rz
   have hkp := hid (fun b (hb : b < w.heap.size) => set5_other w2 (w.heap.size + 1) (.int .i64 0) (.int .i64 0) (.string ⟨#[]⟩) (.slice none 0 0) (.slice none 0 0) (b := b) (by omega))
   unfold set5 at hkp
   generalize ((((w2.setCell ⟨w.heap.size + 1, 0, none⟩ (.int .i64 0)).setCell ⟨w.heap.size + 1, 1, none⟩ (.int .i64 0)).setCell ⟨w.heap.size + 1, 2, none⟩ (.string ⟨#[]⟩)).setCell ⟨w.heap.size + 1, 3, none⟩ (.slice none 0 0)).setCell ⟨w.heap.size + 1, 4, none⟩ (.slice none 0 0) = w9 at *
   have z0 := box_at (j := 0) rz.out rfl
   have z1 := box_at (j := 1) rz.out rfl
   have z2 := box_at (j := 2) rz.out rfl
   have z3 := box_at (j := 3) rz.out rfl
   have z4 := box_at (j := 4) rz.out rfl
   refine ⟨rfl, _, by simp [results, Tryz.results32, go_sem, z0, z1, z2, z3, z4] <;> exact ⟨rfl, rfl⟩, [.int .i64 0, .int .i64 0, .string ⟨#[]⟩, .slice none 0 0, .slice none 0 0], rfl, hbz.out, ?_⟩
   exact rd_zeroP
 | none =>
  clear hnn
  have hR2 : R = if k = 6 then findP s fn fv else none := hR.out
  have hfp2 : findP s fn fv = if fn[p]? = some s then fv[p]? else none := hfp.out
  have hq2 : q = decide (fn[p]? = some s) := hq.out
  clear hR hfp hq
  have c0 := box_at (j := 0) r1.out rfl
  have c1 := box_at (j := 1) r1.out rfl
  have c2 := box_at (j := 2) r1.out rfl
  have c3 := box_at (j := 3) r1.out rfl
  have c4 := box_at (j := 4) r1.out rfl
  have f0 := box_free r1.out
  have b0 := box_at (j := 0) r0.out rfl
  have b1 := box_at (j := 1) r0.out rfl
  have b2 := box_at (j := 2) r0.out rfl
  have b3 := box_at (j := 3) r0.out rfl
  have b4 := box_at (j := 4) r0.out rfl
  go_wp2_with fail
  clear c0 c1 c2 c3 c4 f0 b0 b1 b2 b3 b4
  refine (hfi.out _ D.out).mono ?_
  rintro e w3 ⟨rfl, h3⟩
  replace D := hid (D.out.step h3)
  replace r0 := hid ((h3.block _ (lt_of_block r0.out)).trans r0.out)
  replace r1 := hid ((h3.block _ (lt_of_block r1.out)).trans r1.out)
  clear h3 hfi hpl hV0 hL
  by_cases hk : k = 6
  ·subst hk
   rw [if_pos rfl, hfp2] at hR2
   by_cases hfs : fn[p]? = some s
   ·rw [decide_eq_true hfs] at hq2
    subst hq2
    have hpl2 : p < fv.length := by rw [← hF.out.1]; exact (List.getElem?_eq_some_iff.1 hfs).1
    obtain ⟨x, hx⟩ : ∃ x, fv[p]? = some x := ⟨_, List.getElem?_eq_getElem hpl2⟩
    have hpi : (p : Int) < (fv.length : Int) := by omega
    obtain ⟨b, off, cs, rfl, hSb, hcell, hrd, _⟩ := RdF.at_ hF.out hfs hx
    obtain ⟨xk, xn, xt, xl, xfn, xfv⟩ := x
    obtain ⟨ya, yc, za, zc, rfl, _⟩ := hrd.inv
    have hbb := hS0.out b hSb
    obtain ⟨e0, e1, e2, e3, e4, e5⟩ := six hcell
    replace e0 := (D.out.cell (p := ⟨b, _, none⟩) hbb).trans e0
    replace e1 := (D.out.cell (p := ⟨b, _, none⟩) hbb).trans e1
    replace e2 := (D.out.cell (p := ⟨b, _, none⟩) hbb).trans e2
    replace e3 := (D.out.cell (p := ⟨b, _, none⟩) hbb).trans e3
    replace e4 := (D.out.cell (p := ⟨b, _, none⟩) hbb).trans e4
    replace e5 := (D.out.cell (p := ⟨b, _, none⟩) hbb).trans e5
    rw [if_pos hfs, hx] at hR2
    subst hR2
    replace hrd := hid hrd
    clear hcell hx hSb hF hfs hfp2
    have c0 := box_at (j := 0) r1.out rfl
    have c1 := box_at (j := 1) r1.out rfl
    have c2 := box_at (j := 2) r1.out rfl
    have c3 := box_at (j := 3) r1.out rfl
    have c4 := box_at (j := 4) r1.out rfl
    have f0 := box_free r1.out
    have b0 := box_at (j := 0) r0.out rfl
    have b1 := box_at (j := 1) r0.out rfl
    have b2 := box_at (j := 2) r0.out rfl
    have b3 := box_at (j := 3) r0.out rfl
    have b4 := box_at (j := 4) r0.out rfl
    go_wp2_with fail
    clear c0 c1 c2 c3 c4 f0 b0 b1 b2 b3 b4
    clear e0 e1 e2 e3 e4 e5
    have hbz := hid (set5_below D.out (Nat.le_succ _) (.int .i64 xk) (.int .i64 xn) (.string xt) (.slice ya xl.length yc) (.slice za xfv.length zc))
    have rz := hid (set5_box (u0 := .int .i64 xk) (u1 := .int .i64 xn) (u2 := .string xt) (u3 := .slice ya xl.length yc) (u4 := .slice za xfv.length zc) r1.out)
    unfold set5 at hbz rz
    have hkp := hid (fun b (hb : b < w.heap.size) => set5_other w3 (w.heap.size + 1) (.int .i64 xk) (.int .i64 xn) (.string xt) (.slice ya xl.length yc) (.slice za xfv.length zc) (b := b) (by omega))
    unfold set5 at hkp
    generalize ((((w3.setCell ⟨w.heap.size + 1, 0, none⟩ (.int .i64 xk)).setCell ⟨w.heap.size + 1, 1, none⟩ (.int .i64 xn)).setCell ⟨w.heap.size + 1, 2, none⟩ (.string xt)).setCell ⟨w.heap.size + 1, 3, none⟩ (.slice ya xl.length yc)).setCell ⟨w.heap.size + 1, 4, none⟩ (.slice za xfv.length zc) = w9 at *
    have z0 := box_at (j := 0) rz.out rfl
    have z1 := box_at (j := 1) rz.out rfl
    have z2 := box_at (j := 2) rz.out rfl
    have z3 := box_at (j := 3) rz.out rfl
    have z4 := box_at (j := 4) rz.out rfl
    refine ⟨rfl, _, by simp [results, Tryz.results32, go_sem, z0, z1, z2, z3, z4] <;> exact ⟨rfl, rfl⟩, [.int .i64 xk, .int .i64 xn, .string xt, .slice ya xl.length yc, .slice za xfv.length zc], rfl, hbz.out, ?_⟩
    exact hrd.out.keep (fun _ h => h) (fun b hb => (hkp.out b (hS0.out b hb)).trans (D.out.block b (hS0.out b hb)))
   ·rw [decide_eq_false hfs] at hq2
    subst hq2
    rw [if_neg hfs] at hR2
    subst hR2
    clear hF hfs hfp2
    have c0 := box_at (j := 0) r1.out rfl
    have c1 := box_at (j := 1) r1.out rfl
    have c2 := box_at (j := 2) r1.out rfl
    have c3 := box_at (j := 3) r1.out rfl
    have c4 := box_at (j := 4) r1.out rfl
    have f0 := box_free r1.out
    have b0 := box_at (j := 0) r0.out rfl
    have b1 := box_at (j := 1) r0.out rfl
    have b2 := box_at (j := 2) r0.out rfl
    have b3 := box_at (j := 3) r0.out rfl
    have b4 := box_at (j := 4) r0.out rfl
    go_wp2_with fail
    clear c0 c1 c2 c3 c4 f0 b0 b1 b2 b3 b4
    have hbz := hid (set5_below D.out (Nat.le_succ _) (.int .i64 0) (.int .i64 0) (.string ⟨#[]⟩) (.slice none 0 0) (.slice none 0 0))
    have rz := hid (set5_box (u0 := .int .i64 0) (u1 := .int .i64 0) (u2 := .string ⟨#[]⟩) (u3 := .slice none 0 0) (u4 := .slice none 0 0) r1.out)
    unfold set5 at hbz rz
    have hkp := hid (fun b (hb : b < w.heap.size) => set5_other w3 (w.heap.size + 1) (.int .i64 0) (.int .i64 0) (.string ⟨#[]⟩) (.slice none 0 0) (.slice none 0 0) (b := b) (by omega))
    unfold set5 at hkp
    generalize ((((w3.setCell ⟨w.heap.size + 1, 0, none⟩ (.int .i64 0)).setCell ⟨w.heap.size + 1, 1, none⟩ (.int .i64 0)).setCell ⟨w.heap.size + 1, 2, none⟩ (.string ⟨#[]⟩)).setCell ⟨w.heap.size + 1, 3, none⟩ (.slice none 0 0)).setCell ⟨w.heap.size + 1, 4, none⟩ (.slice none 0 0) = w9 at *
    have z0 := box_at (j := 0) rz.out rfl
    have z1 := box_at (j := 1) rz.out rfl
    have z2 := box_at (j := 2) rz.out rfl
    have z3 := box_at (j := 3) rz.out rfl
    have z4 := box_at (j := 4) rz.out rfl
    refine ⟨rfl, _, by simp [results, Tryz.results32, go_sem, z0, z1, z2, z3, z4] <;> exact ⟨rfl, rfl⟩, [.int .i64 0, .int .i64 0, .string ⟨#[]⟩, .slice none 0 0, .slice none 0 0], rfl, hbz.out, ?_⟩
    exact rd_zeroP
  ·have hki : (k != 6) = true := by simp [hk]
   rw [if_neg hk] at hR2
   subst hR2
   clear hF hfp2 hk hq2
   have c0 := box_at (j := 0) r1.out rfl
   have c1 := box_at (j := 1) r1.out rfl
   have c2 := box_at (j := 2) r1.out rfl
   have c3 := box_at (j := 3) r1.out rfl
   have c4 := box_at (j := 4) r1.out rfl
   have f0 := box_free r1.out
   have b0 := box_at (j := 0) r0.out rfl
   have b1 := box_at (j := 1) r0.out rfl
   have b2 := box_at (j := 2) r0.out rfl
   have b3 := box_at (j := 3) r0.out rfl
   have b4 := box_at (j := 4) r0.out rfl
   go_wp2_with fail
   clear c0 c1 c2 c3 c4 f0 b0 b1 b2 b3 b4
   have hbz := hid (set5_below D.out (Nat.le_succ _) (.int .i64 0) (.int .i64 0) (.string ⟨#[]⟩) (.slice none 0 0) (.slice none 0 0))
   have rz := hid (set5_box (u0 := .int .i64 0) (u1 := .int .i64 0) (u2 := .string ⟨#[]⟩) (u3 := .slice none 0 0) (u4 := .slice none 0 0) r1.out)
   unfold set5 at hbz rz
   have hkp := hid (fun b (hb : b < w.heap.size) => set5_other w3 (w.heap.size + 1) (.int .i64 0) (.int .i64 0) (.string ⟨#[]⟩) (.slice none 0 0) (.slice none 0 0) (b := b) (by omega))
   unfold set5 at hkp
   generalize ((((w3.setCell ⟨w.heap.size + 1, 0, none⟩ (.int .i64 0)).setCell ⟨w.heap.size + 1, 1, none⟩ (.int .i64 0)).setCell ⟨w.heap.size + 1, 2, none⟩ (.string ⟨#[]⟩)).setCell ⟨w.heap.size + 1, 3, none⟩ (.slice none 0 0)).setCell ⟨w.heap.size + 1, 4, none⟩ (.slice none 0 0) = w9 at *
   have z0 := box_at (j := 0) rz.out rfl
   have z1 := box_at (j := 1) rz.out rfl
   have z2 := box_at (j := 2) rz.out rfl
   have z3 := box_at (j := 3) rz.out rfl
   have z4 := box_at (j := 4) rz.out rfl
   refine ⟨rfl, _, by simp [results, Tryz.results32, go_sem, z0, z1, z2, z3, z4] <;> exact ⟨rfl, rfl⟩, [.int .i64 0, .int .i64 0, .string ⟨#[]⟩, .slice none 0 0, .slice none 0 0], rfl, hbz.out, ?_⟩
   exact rd_zeroP
end Go.Proofs.YthjihdpleclejaaGreatDoor
