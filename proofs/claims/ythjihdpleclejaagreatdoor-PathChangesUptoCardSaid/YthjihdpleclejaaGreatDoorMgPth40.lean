/-
  Walks: the reference's asked, told. No condition.
  Plain: the reference's set is the program's change. No condition.
  Plain: sums; what is pushed. No condition.
  Plain: the reference's answers are the program's. No condition.
-/
import Derived.Test.YthjihdpleclejaaGreatDoorMgPth8
import Derived.Test.YthjihdpleclejaaGreatDoorMgPth14
import Derived.Test.YthjihdpleclejaaGreatDoorMgRef6
import Derived.Test.YthjihdpleclejaaGreatDoorMgPthV
namespace Go.Proofs.YthjihdpleclejaaGreatDoor
open Go.RowKit Go.Proofs
theorem Rd.five {w : World} {S : Nat → Prop} {V : PVal} {cs : List Value} (h : Rd w S V cs) : ∃ k n s la ln lc fa fl fc, cs = [.int .i64 k, .int .i64 n, .string s, .slice la ln lc, .slice fa fl fc] := by
 cases h
 exact ⟨_, _, _, _, _, _, _, _, _, rfl⟩
def TellR (S : Nat → Prop) (q : PVal × Int) (w : World) (e : Ending) (w' : World) : Prop := ∃ cs, e = .returned (.tuple #[.agg cs.toArray, .int .i64 q.2]) ∧ Below w.heap.size w w' ∧ Rd w' (fun c => S c ∨ From w.heap.size w' c) q.1 cs
def toldR (v : PVal) (e : Int) : PVal × Int := if e ≠ 0 then (zeroP, e) else if v.good ≠ 0 then (zeroP, v.good) else (v, 0)
set_option maxRecDepth 100000 in
set_option maxHeartbeats 4000000 in
theorem rtold_calls {S : Nat → Prop} (V : PVal) (hm : V.mass ≤ 1073741824) (er : Int) {w : World} {cs : List Value} (hS : ∀ c, S c → c < w.heap.size) (hV : Rd w S V cs) :
  Calls Tryz.prog 35 #[.agg cs.toArray, .int .i64 er] w (TellR S (toldR V er) w) := by
 unfold TellR
 have hgd := hid (fun (w' : World) (h : Below w.heap.size w w') => rgood_mass V hm w' cs ((hV.keep (S' := Now w) hS (fun _ _ => rfl)).later h))
 have hV0 := hid hV
 have hS0 := hid hS
 have hT0 : Hid (er ≠ 0 → toldR V er = (zeroP, er)) := fun h => by unfold toldR; rw [if_pos h]
 have hT1 : Hid (er = 0 → V.good ≠ 0 → toldR V er = (zeroP, V.good)) := fun h h2 => by unfold toldR; rw [if_neg (by simp [h]), if_pos h2]
 have hT2 : Hid (er = 0 → V.good = 0 → toldR V er = (V, 0)) := fun h h2 => by unfold toldR; rw [if_neg (by simp [h]), if_neg (by simp [h2])]
 obtain ⟨TR, hTR⟩ : ∃ R, R = toldR V er := ⟨_, rfl⟩
 rw [← hTR] at hT0 hT1 hT2 ⊢
 obtain ⟨GV, hG⟩ : ∃ G, G = V.good := ⟨_, rfl⟩
 rw [← hG] at hgd hT1 hT2
 obtain ⟨vk, vn, vt, va, vl, vc, vf, vm, vg, rfl⟩ := hV.five
 clear hTR hG hV hS hm
 obtain ⟨W0, hW0⟩ : ∃ W0, W0 = (w.alloc (.cells #[.int .i64 vk, .int .i64 vn, .string vt, .slice va vl vc, .slice vf vm vg] 25)).alloc (.cells #[.int .i64 0, .int .i64 0, .string ⟨#[]⟩, .slice none 0 0, .slice none 0 0] 25) := ⟨_, rfl⟩
 have D : Hid (Below w.heap.size w W0) := by show Below _ _ _; rw [hW0]; exact (below_new _ _).step (below_new _ _)
 have r2 : Hid (W0.heap[w.heap.size]? = some (.cells #[.int .i64 vk, .int .i64 vn, .string vt, .slice va vl vc, .slice vf vm vg] 25 (0, 0))) := by show _ = _; rw [hW0]; exact al_old (al_at rfl)
 have r4 : Hid (W0.heap[w.heap.size + 1]? = some (.cells #[.int .i64 0, .int .i64 0, .string ⟨#[]⟩, .slice none 0 0, .slice none 0 0] 25 (0, 0))) := by show _ = _; rw [hW0]; exact al_at (by simp)
 go_enter Tryz.func35, Tryz.ntmps35
 go_upto_region 1 with fail
 rw [← hW0]
 clear hW0
 by_cases hE : er = 0
 ·subst hE
  clear hT0
  have b0 := box_at (j := 0) r2.out rfl
  have b1 := box_at (j := 1) r2.out rfl
  have b2 := box_at (j := 2) r2.out rfl
  have b3 := box_at (j := 3) r2.out rfl
  have b4 := box_at (j := 4) r2.out rfl
  go_wp2_with fail
  clear b0 b1 b2 b3 b4
  refine (hgd.out _ D.out).mono ?_
  rintro e w1 ⟨rfl, h1⟩
  replace D := hid (D.out.step h1)
  replace r2 := hid ((h1.block _ (lt_of_block r2.out)).trans r2.out)
  replace r4 := hid ((h1.block _ (lt_of_block r4.out)).trans r4.out)
  clear h1 hgd
  by_cases hG0 : GV = 0
  ·have hR := hT2.out (by simp) hG0
   subst hG0 hR
   clear hT1 hT2
   have c0 := box_at (j := 0) r4.out rfl
   have c1 := box_at (j := 1) r4.out rfl
   have c2 := box_at (j := 2) r4.out rfl
   have c3 := box_at (j := 3) r4.out rfl
   have c4 := box_at (j := 4) r4.out rfl
   have f0 := box_free r4.out
   have b0 := box_at (j := 0) r2.out rfl
   have b1 := box_at (j := 1) r2.out rfl
   have b2 := box_at (j := 2) r2.out rfl
   have b3 := box_at (j := 3) r2.out rfl
   have b4 := box_at (j := 4) r2.out rfl
   go_wp2_with fail
   clear c0 c1 c2 c3 c4
   clear b0 b1 b2 b3 b4
   clear f0
   have hbz := hid (set5_below D.out (Nat.le_succ _) (.int .i64 vk) (.int .i64 vn) (.string vt) (.slice va vl vc) (.slice vf vm vg))
   have rz := hid (set5_box (u0 := .int .i64 vk) (u1 := .int .i64 vn) (u2 := .string vt) (u3 := .slice va vl vc) (u4 := .slice vf vm vg) r4.out)
   have hkp := hid (fun b (hb : b ≠ w.heap.size + 1) => set5_other w1 (w.heap.size + 1) (.int .i64 vk) (.int .i64 vn) (.string vt) (.slice va vl vc) (.slice vf vm vg) (b := b) hb)
   have hsz9 := hid (set5_size w1 (w.heap.size + 1) (.int .i64 vk) (.int .i64 vn) (.string vt) (.slice va vl vc) (.slice vf vm vg))
   unfold set5 at hbz rz hkp hsz9
   generalize ((((w1.setCell ⟨w.heap.size + 1, 0, none⟩ (.int .i64 vk)).setCell ⟨w.heap.size + 1, 1, none⟩ (.int .i64 vn)).setCell ⟨w.heap.size + 1, 2, none⟩ (.string vt)).setCell ⟨w.heap.size + 1, 3, none⟩ (.slice va vl vc)).setCell ⟨w.heap.size + 1, 4, none⟩ (.slice vf vm vg) = w9 at *
   have z0 := box_at (j := 0) rz.out rfl
   have z1 := box_at (j := 1) rz.out rfl
   have z2 := box_at (j := 2) rz.out rfl
   have z3 := box_at (j := 3) rz.out rfl
   have z4 := box_at (j := 4) rz.out rfl
   refine ⟨rfl, _, by simp [results, Tryz.results35, go_sem, z0, z1, z2, z3, z4] <;> exact ⟨rfl, rfl⟩, [.int .i64 vk, .int .i64 vn, .string vt, .slice va vl vc, .slice vf vm vg], rfl, hbz.out, ?_⟩
   exact hV0.out.keep (fun c h => .inl h) (fun c h => (hkp.out c (by have := hS0.out c h; omega)).trans (D.out.block c (hS0.out c h)))
  ·have hR := hT1.out (by simp) hG0
   have hGi : (GV != 0) = true := by simp [hG0]
   subst hR
   clear hT1 hT2 hG0
   have c0 := box_at (j := 0) r4.out rfl
   have c1 := box_at (j := 1) r4.out rfl
   have c2 := box_at (j := 2) r4.out rfl
   have c3 := box_at (j := 3) r4.out rfl
   have c4 := box_at (j := 4) r4.out rfl
   have f0 := box_free r4.out
   go_wp2_with fail
   clear c0 c1 c2 c3 c4
   clear f0
   have hbz := hid (set5_below D.out (Nat.le_succ _) (.int .i64 0) (.int .i64 0) (.string ⟨#[]⟩) (.slice none 0 0) (.slice none 0 0))
   have rz := hid (set5_box (u0 := .int .i64 0) (u1 := .int .i64 0) (u2 := .string ⟨#[]⟩) (u3 := .slice none 0 0) (u4 := .slice none 0 0) r4.out)
   have hkp := hid (fun b (hb : b ≠ w.heap.size + 1) => set5_other w1 (w.heap.size + 1) (.int .i64 0) (.int .i64 0) (.string ⟨#[]⟩) (.slice none 0 0) (.slice none 0 0) (b := b) hb)
   have hsz9 := hid (set5_size w1 (w.heap.size + 1) (.int .i64 0) (.int .i64 0) (.string ⟨#[]⟩) (.slice none 0 0) (.slice none 0 0))
   unfold set5 at hbz rz hkp hsz9
   generalize ((((w1.setCell ⟨w.heap.size + 1, 0, none⟩ (.int .i64 0)).setCell ⟨w.heap.size + 1, 1, none⟩ (.int .i64 0)).setCell ⟨w.heap.size + 1, 2, none⟩ (.string ⟨#[]⟩)).setCell ⟨w.heap.size + 1, 3, none⟩ (.slice none 0 0)).setCell ⟨w.heap.size + 1, 4, none⟩ (.slice none 0 0) = w9 at *
   have z0 := box_at (j := 0) rz.out rfl
   have z1 := box_at (j := 1) rz.out rfl
   have z2 := box_at (j := 2) rz.out rfl
   have z3 := box_at (j := 3) rz.out rfl
   have z4 := box_at (j := 4) rz.out rfl
   refine ⟨rfl, _, by simp [results, Tryz.results35, go_sem, z0, z1, z2, z3, z4] <;> exact ⟨rfl, rfl⟩, [.int .i64 0, .int .i64 0, .string ⟨#[]⟩, .slice none 0 0, .slice none 0 0], rfl, hbz.out, ?_⟩
   exact rd_zeroP
 ·have hR := hT0.out hE
  have hEi : (er == 0) = false := by simp [hE]
  have hEn : (er != 0) = true := by simp [hE]
  subst hR
  clear hT0 hT1 hT2 hE
  have c0 := box_at (j := 0) r4.out rfl
  have c1 := box_at (j := 1) r4.out rfl
  have c2 := box_at (j := 2) r4.out rfl
  have c3 := box_at (j := 3) r4.out rfl
  have c4 := box_at (j := 4) r4.out rfl
  have f0 := box_free r4.out
  go_wp2_with fail
  clear c0 c1 c2 c3 c4
  clear f0
  have hbz := hid (set5_below D.out (Nat.le_succ _) (.int .i64 0) (.int .i64 0) (.string ⟨#[]⟩) (.slice none 0 0) (.slice none 0 0))
  have rz := hid (set5_box (u0 := .int .i64 0) (u1 := .int .i64 0) (u2 := .string ⟨#[]⟩) (u3 := .slice none 0 0) (u4 := .slice none 0 0) r4.out)
  have hkp := hid (fun b (hb : b ≠ w.heap.size + 1) => set5_other W0 (w.heap.size + 1) (.int .i64 0) (.int .i64 0) (.string ⟨#[]⟩) (.slice none 0 0) (.slice none 0 0) (b := b) hb)
  have hsz9 := hid (set5_size W0 (w.heap.size + 1) (.int .i64 0) (.int .i64 0) (.string ⟨#[]⟩) (.slice none 0 0) (.slice none 0 0))
  unfold set5 at hbz rz hkp hsz9
  generalize ((((W0.setCell ⟨w.heap.size + 1, 0, none⟩ (.int .i64 0)).setCell ⟨w.heap.size + 1, 1, none⟩ (.int .i64 0)).setCell ⟨w.heap.size + 1, 2, none⟩ (.string ⟨#[]⟩)).setCell ⟨w.heap.size + 1, 3, none⟩ (.slice none 0 0)).setCell ⟨w.heap.size + 1, 4, none⟩ (.slice none 0 0) = w9 at *
  have z0 := box_at (j := 0) rz.out rfl
  have z1 := box_at (j := 1) rz.out rfl
  have z2 := box_at (j := 2) rz.out rfl
  have z3 := box_at (j := 3) rz.out rfl
  have z4 := box_at (j := 4) rz.out rfl
  refine ⟨rfl, _, by simp [results, Tryz.results35, go_sem, z0, z1, z2, z3, z4] <;> exact ⟨rfl, rfl⟩, [.int .i64 0, .int .i64 0, .string ⟨#[]⟩, .slice none 0 0, .slice none 0 0], rfl, hbz.out, ?_⟩
  exact rd_zeroP
def askR (v : PVal) (p : ByteArray) : Int := if v.good ≠ 0 then v.good else if stepsP p = none then 14 else 0
def askS (v : PVal) (p : ByteArray) : Option (List ByteArray) := if v.good ≠ 0 then none else stepsP p
def AskedR (R : Option (List ByteArray)) (er : Int) (w : World) (e : Ending) (w' : World) : Prop := Below w.heap.size w w' ∧ match R with
 | none => e = .returned (.tuple #[.slice none 0 0, .int .i64 er])
 | some l => ∃ v, e = .returned (.tuple #[v, .int .i64 0]) ∧ StrsAt w' (From w.heap.size w') l v
set_option maxRecDepth 100000 in
set_option maxHeartbeats 2000000 in
theorem rasked_calls (V : PVal) (hm : V.mass ≤ 1073741824) (pa : ByteArray) (hpa : pa.size ≤ 70368744177664) {w : World} {cs : List Value} (hV : Rd w (Now w) V cs) :
  Calls Tryz.prog 33 #[.agg cs.toArray, .string pa] w (AskedR (askS V pa) (askR V pa) w) := by
 have hgd := hid (fun (w' : World) (h : Below w.heap.size w w') => rgood_mass V hm w' cs (hV.later h))
 have hst := hid (fun (w' : World) => rsteps_calls pa w' hpa)
 have hT0 : Hid (V.good ≠ 0 → askR V pa = V.good ∧ askS V pa = none) := fun h => ⟨by unfold askR; rw [if_pos h], by unfold askS; rw [if_pos h]⟩
 have hT1 : Hid (V.good = 0 → stepsP pa = none → askR V pa = 14 ∧ askS V pa = none) := fun h h2 => ⟨by unfold askR; rw [if_neg (by simp [h]), if_pos h2], by unfold askS; rw [if_neg (by simp [h])]; exact h2⟩
 have hT2 : Hid (V.good = 0 → ∀ l, stepsP pa = some l → askS V pa = some l) := fun h l h2 => by unfold askS; rw [if_neg (by simp [h])]; exact h2
 obtain ⟨TR, hTR⟩ : ∃ R, R = askR V pa := ⟨_, rfl⟩
 rw [← hTR] at hT0 hT1 ⊢
 obtain ⟨TS, hTS⟩ : ∃ R, R = askS V pa := ⟨_, rfl⟩
 rw [← hTS] at hT0 hT1 hT2 ⊢
 obtain ⟨GV, hG⟩ : ∃ G, G = V.good := ⟨_, rfl⟩
 rw [← hG] at hgd hT0 hT1 hT2
 obtain ⟨Q, hQ⟩ : ∃ Q, Q = stepsP pa := ⟨_, rfl⟩
 rw [← hQ] at hst hT1 hT2
 obtain ⟨vk, vn, vt, va, vl, vc, vf, vm, vg, rfl⟩ := hV.five
 clear hTR hTS hG hQ hV hm hpa
 unfold AskedR
 have D := hid (below_new w (.cells #[.int .i64 vk, .int .i64 vn, .string vt, .slice va vl vc, .slice vf vm vg] 25))
 go_enter Tryz.func33, Tryz.ntmps33
 go_wp2_with fail
 refine (hgd.out _ D.out).mono ?_
 rintro e w1 ⟨rfl, h1⟩
 replace D := hid (D.out.step h1)
 clear h1 hgd
 by_cases hG0 : GV = 0
 ·subst hG0
  clear hT0
  go_wp2_with fail
  refine (hst.out _).mono ?_
  rintro e w2 ⟨h2, hres⟩
  have hs1 := hid D.out.size
  replace D := hid (D.out.step h2)
  clear h2
  cases Q with
  | none =>
   simp only at hres
   subst hres
   obtain ⟨hR, hR2⟩ := hT1.out (by simp) rfl
   subst hR hR2
   clear hT1 hT2
   go_wp2_with fail
   go_returns
   exact ⟨D.out, rfl⟩
  | some l =>
   obtain ⟨sv, rfl, hss⟩ := hres
   have hR := hT2.out (by simp) l rfl
   subst hR
   replace hss := hid hss
   clear hT1 hT2
   go_wp2_with fail
   go_returns
   exact ⟨D.out, _, rfl, hss.out.keep (fun b hb => ⟨Nat.le_trans hs1.out hb.1, hb.2⟩) (fun _ _ => rfl)⟩
 ·have hGi : (GV != 0) = true := by simp [hG0]
  obtain ⟨hR, hR2⟩ := hT0.out hG0
  subst hR hR2
  clear hT0 hT1 hT2
  go_wp2_with fail
  go_returns
  exact ⟨D.out, rfl⟩
end Go.Proofs.YthjihdpleclejaaGreatDoor
namespace Go.Proofs.YthjihdpleclejaaGreatDoor
def setR : PVal → List ByteArray → PVal → PVal × Int
 | _, [], x => (x, 0)
 | v, s :: r, x =>
  match place s with
  | some n => if v.k ≠ 5 then (v, 7) else match v.l[n]? with
   | none => (v, 8)
   | some y => if (setR y r x).2 ≠ 0 then (v, (setR y r x).2) else (listV (v.l.set n (setR y r x).1), 0)
  | none => if v.k ≠ 6 then (v, 7) else
   if (setR ((findP s v.fn v.fv).getD docE) r x).2 ≠ 0 then (v, (setR ((findP s v.fn v.fv).getD docE) r x).2)
   else (docL ((withR s (setR ((findP s v.fn v.fv).getD docE) r x).1 false v.fn v.fv).map Prod.fst) ((withR s (setR ((findP s v.fn v.fv).getD docE) r x).1 false v.fn v.fv).map Prod.snd), 0)
theorem setR_doc {v : PVal} {s : ByteArray} {r : List ByteArray} {x : PVal} (hv : Sound v) (q : Chg) (_hq : q = atP (toSet x) true ((findP s v.fn v.fv).getD docE) r) (hg : q.gone = false)
  (ih : (setR ((findP s v.fn v.fv).getD docE) r x).2 = q.e ∧ ((setR ((findP s v.fn v.fv).getD docE) r x).2 = 0 → (setR ((findP s v.fn v.fv).getD docE) r x).1 = q.v)) :
  let R : PVal × Int := if (setR ((findP s v.fn v.fv).getD docE) r x).2 ≠ 0 then (v, (setR ((findP s v.fn v.fv).getD docE) r x).2) else (docL ((withR s (setR ((findP s v.fn v.fv).getD docE) r x).1 false v.fn v.fv).map Prod.fst) ((withR s (setR ((findP s v.fn v.fv).getD docE) r x).1 false v.fn v.fv).map Prod.snd), 0)
  R.2 = (atF v s q).e ∧ (R.2 = 0 → R.1 = (atF v s q).v) := by
 intro R
 obtain ⟨h1, h2⟩ := ih
 show (R.2 = _) ∧ _
 rw [atF_e]
 by_cases he : (setR ((findP s v.fn v.fv).getD docE) r x).2 = 0
 ·have hR : R = (docL ((withR s (setR ((findP s v.fn v.fv).getD docE) r x).1 false v.fn v.fv).map Prod.fst) ((withR s (setR ((findP s v.fn v.fv).getD docE) r x).1 false v.fn v.fv).map Prod.snd), 0) := if_neg (by simp [he])
  rw [hR]
  refine ⟨by rw [← h1, he], fun _ => ?_⟩
  rw [h2 he, with_at hv.up hv.len hg]
 ·have hR : R = (v, (setR ((findP s v.fn v.fv).getD docE) r x).2) := if_pos he
  rw [hR]
  exact ⟨h1, fun h => absurd h he⟩
theorem setR_at {x : PVal} : ∀ (l : List ByteArray) (v : PVal), Sound v → (setR v l x).2 = (atP (toSet x) true v l).e ∧ ((setR v l x).2 = 0 → (setR v l x).1 = (atP (toSet x) true v l).v)
 | [], v, _ => by rw [atP_nil, setR]; exact ⟨rfl, fun _ => rfl⟩
 | s :: r, v, hv => by
  rw [atP_cons, setR]
  cases hp : place s with
  | some n =>
   simp only
   by_cases hk : v.k = 5
   ·have hk5 : ¬ v.k ≠ 5 := by simp [hk]
    rw [if_neg hk5, if_neg hk5]
    cases hy : v.l[n]? with
    | none => exact ⟨rfl, fun h => by simp at h⟩
    | some y =>
     simp only
     have hl : leads v s = some y := by rw [leads_place hp, if_pos hk]; exact hy
     obtain ⟨h1, h2⟩ := setR_at (x := x) r y (hv.part (leads_part hl))
     have hg : (atP (toSet x) true y r).gone = false := atP_gone (fun _ => rfl) r y
     by_cases he : (setR y r x).2 = 0
     ·rw [if_neg (by simp [he])]
      refine ⟨by show (0 : Int) = (atP (toSet x) true y r).e; rw [← h1, he], fun _ => ?_⟩
      rw [atL_set v n hg, h2 he]
     ·rw [if_pos he]
      exact ⟨h1, fun h => absurd h he⟩
   ·rw [if_pos hk, if_pos hk]
    exact ⟨rfl, fun h => by simp at h⟩
  | none =>
   simp only
   by_cases hk : v.k = 6
   ·have hk6 : ¬ v.k ≠ 6 := by simp [hk]
    rw [if_neg hk6, if_neg hk6]
    have hso : Sound ((findP s v.fn v.fv).getD docE) := by
     cases hf : findP s v.fn v.fv with
     | none => exact sound_docE
     | some y => exact hv.part (leads_part (v := v) (s := s) (by rw [leads_name hp, if_pos hk]; exact hf))
    have h := setR_doc (x := x) (r := r) hv _ rfl (atP_gone (fun _ => rfl) r _) (setR_at r _ hso)
    cases hf : findP s v.fn v.fv with
    | none => rw [hf] at h; simpa using h
    | some y => rw [hf] at h; simpa using h
   ·rw [if_pos hk, if_pos hk]
    exact ⟨rfl, fun h => by simp at h⟩
end Go.Proofs.YthjihdpleclejaaGreatDoor
namespace Go.Proofs.YthjihdpleclejaaGreatDoor
theorem atP_point {tf : PVal → Chg} {lays : Bool} : ∀ (a : List ByteArray) (v x : PVal), getP v a = some x → atP tf lays v a = atP (fun _ => tf x) lays v a
 | [], v, x, h => by
  rw [atP_nil, atP_nil]
  rw [getP] at h
  injection h with h
  rw [h]
 | s :: r, v, x, h => by
  obtain ⟨y, hy, hr⟩ := getP_cons h
  have ih := atP_point (tf := tf) (lays := lays) r y x hr
  unfold leads at hy
  rw [atP_cons, atP_cons]
  cases hp : place s with
  | some n =>
   rw [hp] at hy
   simp only at hy
   by_cases hk : v.k = 5
   ·rw [if_pos hk] at hy
    simp only [hy, ih]
   ·rw [if_neg hk] at hy; cases hy
  | none =>
   rw [hp] at hy
   simp only at hy
   by_cases hk : v.k = 6
   ·rw [if_pos hk] at hy
    simp only [hy, ih]
   ·rw [if_neg hk] at hy; cases hy
end Go.Proofs.YthjihdpleclejaaGreatDoor
namespace Go.Proofs.YthjihdpleclejaaGreatDoor
theorem ask_also {v : PVal} {p : ByteArray} {also : List PVal} (h : askR v p ≠ 0) : askP v p also = askR v p := by
 unfold askR askP at *
 by_cases h1 : v.good = 0
 ·by_cases h2 : stepsP p = none
  ·simp [h1, h2]
  ·simp [h1, h2] at h
 ·simp [h1]
theorem ask_zero {v : PVal} {p : ByteArray} (h : askR v p = 0) : v.good = 0 ∧ ∃ l, stepsP p = some l ∧ askS v p = some l := by
 unfold askR at h
 unfold askS
 by_cases h1 : v.good = 0
 ·cases h2 : stepsP p with
  | none => simp [h1, h2] at h
  | some l => exact ⟨h1, l, rfl, by simp [h1]⟩
 ·simp [h1] at h
theorem ask_nil {v : PVal} {p : ByteArray} (h : askR v p = 0) : askP v p [] = 0 := by
 obtain ⟨h1, l, h2, _⟩ := ask_zero h
 unfold askP
 simp [h1, h2]
theorem ask_one {v x : PVal} {p : ByteArray} (h : askR v p = 0) : askP v p [x] = x.good := by
 obtain ⟨h1, l, h2, _⟩ := ask_zero h
 unfold askP
 by_cases h3 : x.good = 0
 ·simp [h1, h2, h3]
 ·simp [h1, h2, h3]
theorem done_ask {tf : PVal → Chg} {lays : Bool} {v : PVal} {p : ByteArray} {also : List PVal} (h : askP v p also ≠ 0) : doneP tf lays v p also = (zeroP, askP v p also) := by unfold doneP; rw [if_pos h]
theorem done_zero {tf : PVal → Chg} {lays : Bool} {v : PVal} {p : ByteArray} {also : List PVal} {l : List ByteArray} (h : askP v p also = 0) (hs : stepsP p = some l) : doneP tf lays v p also = toldP (atP tf lays v l) := by unfold doneP; rw [if_neg (by simp [h]), hs]; rfl
theorem thereU_ask {tf : PVal → Chg} {v : PVal} {p : ByteArray} {also : List PVal} (h : askP v p also ≠ 0) : thereP tf v p also = (zeroP, askP v p also) := by
 unfold thereP
 rw [done_ask h]
 simp [h]
theorem told_same {R : PVal × Int} {q : Chg} (h1 : R.2 = q.e) (h2 : R.2 = 0 → R.1 = q.v) : toldR R.1 R.2 = toldP q := by
 unfold toldR toldP
 rw [← h1]
 by_cases h : R.2 = 0
 ·simp [h, h2 h]
 ·simp [h]
theorem told_bad {q : Chg} (h : (toldP q).2 ≠ 0) : toldP q = (zeroP, (toldP q).2) := by
 unfold toldP at *
 by_cases h1 : q.e = 0
 ·by_cases h2 : q.v.good = 0
  ·simp [h1, h2] at h
  ·simp [h1, h2]
 ·simp [h1]
theorem atP_lays {tf : PVal → Chg} : ∀ (l : List ByteArray) (v y : PVal), getP v l = some y → atP tf true v l = atP tf false v l
 | [], v, y, _ => by rw [atP_nil, atP_nil]
 | s :: r, v, y, h => by
  rw [getP] at h
  cases hl : leads v s with
  | none => rw [hl] at h; cases h
  | some x =>
   rw [hl] at h
   have ih := atP_lays (tf := tf) r x y h
   rw [atP_cons, atP_cons]
   unfold leads at hl
   cases hp : place s with
   | some n =>
    rw [hp] at hl
    simp only at hl ⊢
    by_cases hk : v.k = 5
    ·rw [if_pos hk] at hl
     simp only [hl, ih]
    ·rw [if_neg hk] at hl; cases hl
   | none =>
    rw [hp] at hl
    simp only at hl ⊢
    by_cases hk : v.k = 6
    ·rw [if_pos hk] at hl
     simp only [hl, ih]
    ·rw [if_neg hk] at hl; cases hl
theorem atP_err {tf : PVal → Chg} : ∀ (l : List ByteArray) (v y : PVal), getP v l = some y → (atP tf false v l).e = (tf y).e
 | [], v, y, h => by
  rw [getP] at h
  injection h with h
  rw [atP_nil, h]
 | s :: r, v, y, h => by
  rw [getP] at h
  cases hl : leads v s with
  | none => rw [hl] at h; cases h
  | some x =>
   rw [hl] at h
   have ih := atP_err (tf := tf) r x y h
   rw [atP_cons]
   unfold leads at hl
   cases hp : place s with
   | some n =>
    rw [hp] at hl
    simp only at hl ⊢
    by_cases hk : v.k = 5
    ·rw [if_pos hk] at hl
     rw [if_neg (by simp [hk])]
     simp only [hl]
     exact ih
    ·rw [if_neg hk] at hl; cases hl
   | none =>
    rw [hp] at hl
    simp only at hl ⊢
    by_cases hk : v.k = 6
    ·rw [if_pos hk] at hl
     rw [if_neg (by simp [hk])]
     simp only [hl]
     rw [atF_e]
     exact ih
    ·rw [if_neg hk] at hl; cases hl
theorem rset_told {v x : PVal} {l : List ByteArray} (hv : v.fits) (hg : v.good = 0) : toldR (setR v l x).1 (setR v l x).2 = toldP (atP (toSet x) true v l) := by
 obtain ⟨h1, h2⟩ := setR_at (x := x) l v ⟨hv, ((good_iff v).1 hg).1⟩
 exact told_same h1 h2
theorem setR_bad {v x : PVal} {l : List ByteArray} (h : (setR v l x).2 ≠ 0) : (setR v l x).1 = v := by
 cases l with
 | nil => rw [setR] at h; exact absurd rfl h
 | cons s r =>
  rw [setR] at h ⊢
  cases hp : place s with
  | some n =>
   rw [hp] at h
   simp only at h ⊢
   by_cases hk : v.k = 5
   ·rw [if_neg (by simp [hk])] at h ⊢
    cases hy : v.l[n]? with
    | none => simp only
    | some y =>
     rw [hy] at h
     simp only at h ⊢
     by_cases he : (setR y r x).2 = 0
     ·rw [if_neg (by simp [he])] at h; exact absurd rfl h
     ·rw [if_pos he]
   ·rw [if_pos hk]
  | none =>
   rw [hp] at h
   simp only at h ⊢
   by_cases hk : v.k = 6
   ·rw [if_neg (by simp [hk])] at h ⊢
    by_cases he : (setR ((findP s v.fn v.fv).getD docE) r x).2 = 0
    ·rw [if_neg (by simp [he])] at h; exact absurd rfl h
    ·rw [if_pos he]
   ·rw [if_pos hk]
theorem rset_mass {v x : PVal} {p : ByteArray} {l : List ByteArray} {M : Nat} (hf : v.fits) (hg : v.good = 0) (hs : stepsP p = some l) (hM : 32 ≤ M) (hv : v.mass ≤ M) (hx : x.mass ≤ M) : (setR v l x).1.mass ≤ M + 8 * (M + 200) := by
 by_cases h : (setR v l x).2 = 0
 ·rw [(setR_at (x := x) l v ⟨hf, ((good_iff v).1 hg).1⟩).2 h]
  obtain ⟨h3, h4⟩ := steps_small hs
  have h1 := atP_mass hM hM (tf := toSet x) (fun _ _ => hx) (lays := true) l v hv (fun s hs => by have := h4 s hs; omega)
  have h5 : l.length * (M + 200) ≤ 8 * (M + 200) := Nat.mul_le_mul_right _ h3
  omega
 ·rw [setR_bad h]; omega
theorem setR_ask {v x : PVal} {p : ByteArray} (h : askR v p ≠ 0) : setP v p x = (zeroP, askR v p) := by
 have h1 := ask_also (also := [x]) h
 unfold setP
 rw [done_ask (by rw [h1]; exact h), h1]
theorem setR_also {v x : PVal} {p : ByteArray} (h : askR v p = 0) (hx : x.good ≠ 0) : setP v p x = (zeroP, x.good) := by
 have h1 := ask_one (x := x) h
 unfold setP
 rw [done_ask (by rw [h1]; exact hx), h1]
theorem setR_told {v x : PVal} {p : ByteArray} {l : List ByteArray} (hf : v.fits) (h : askR v p = 0) (hx : x.good = 0) (hs : stepsP p = some l) : toldR (setR v l x).1 (setR v l x).2 = setP v p x := by
 have h1 := ask_one (x := x) h
 unfold setP
 rw [done_zero (by rw [h1]; exact hx) hs, rset_told hf (ask_zero h).1]
theorem thereR_none {tf : PVal → Chg} {v : PVal} {p : ByteArray} {also : List PVal} {l : List ByteArray} (h : askR v p = 0) (ha : askP v p also = 0) (hs : stepsP p = some l) (hg : getP v l = none) : thereP tf v p also = (zeroP, 8) := by
 have h1 : (doneP tf false v p also).2 ≠ 0 := fun h2 => by
  obtain ⟨_, _, l', e1, e2, _⟩ := done_ok h2
  obtain rfl : l' = l := by rw [hs] at e1; injection e1 with e1; exact e1.symm
  exact atP_lost l' v hg e2
 unfold thereP
 have h2 : gotP v p = none := by rw [got_good (ask_zero h).1 hs, hg]
 simp only [h1, ha, h2, if_false, if_true, ne_eq, not_true_eq_false]
theorem thereR_err {tf : PVal → Chg} {v y : PVal} {p : ByteArray} {also : List PVal} {l : List ByteArray} (h : askR v p = 0) (ha : askP v p also = 0) (hs : stepsP p = some l) (hg : getP v l = some y) (he : (tf y).e ≠ 0) : thereP tf v p also = (zeroP, (tf y).e) := by
 have h1 : doneP tf false v p also = (zeroP, (tf y).e) := by
  rw [done_zero ha hs]
  unfold toldP
  rw [atP_err l v y hg, if_pos he]
 unfold thereP
 have h2 : gotP v p = some y := by rw [got_good (ask_zero h).1 hs, hg]
 rw [h1]
 simp [he, ha, h2]
theorem thereR_told {tf : PVal → Chg} {v y z : PVal} {p : ByteArray} {also : List PVal} {l : List ByteArray} (hf : v.fits) (h : askR v p = 0) (ha : askP v p also = 0) (hs : stepsP p = some l) (hg : getP v l = some y) (he : tf y = ⟨z, false, 0⟩) : toldR (setR v l z).1 (setR v l z).2 = thereP tf v p also := by
 have h1 : doneP tf false v p also = toldP (atP (toSet z) true v l) := by
  rw [done_zero ha hs, atP_point l v y hg, atP_lays l v y hg]
  congr 1
  show atP (fun _ => tf y) false v l = atP (fun _ => ⟨z, false, 0⟩) false v l
  rw [he]
 rw [rset_told hf (ask_zero h).1, ← h1]
 unfold thereP
 have h2 : gotP v p = some y := by rw [got_good (ask_zero h).1 hs, hg]
 by_cases h3 : (doneP tf false v p also).2 = 0
 ·simp [h3]
 ·simp only [h3, ha, h2, if_false, ne_eq, not_true_eq_false, reduceCtorEq]
  rw [h1] at h3 ⊢
  exact told_bad h3
end Go.Proofs.YthjihdpleclejaaGreatDoor
