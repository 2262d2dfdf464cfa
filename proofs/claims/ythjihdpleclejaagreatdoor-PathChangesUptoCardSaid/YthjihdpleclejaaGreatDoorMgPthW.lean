/-
  Plain: the reference's unset is the program's change. No condition.
  Walk: the reference's unset, its arms. No condition.
-/
import Derived.Test.YthjihdpleclejaaGreatDoorMgPth40
import Derived.Test.YthjihdpleclejaaGreatDoorMgPth47
namespace Go.Proofs.YthjihdpleclejaaGreatDoor
def unsetR : PVal → List ByteArray → PVal
 | v, [] => v
 | v, s :: r =>
  if r = [] then
   match place s with
   | some n => listV (v.l.eraseIdx n)
   | none => docL ((withR s zeroP true v.fn v.fv).map Prod.fst) ((withR s zeroP true v.fn v.fv).map Prod.snd)
  else
   match place s with
   | some n => listV (v.l.set n (unsetR ((v.l[n]?).getD zeroP) r))
   | none => docL ((withR s (unsetR ((findP s v.fn v.fv).getD zeroP) r) false v.fn v.fv).map Prod.fst) ((withR s (unsetR ((findP s v.fn v.fv).getD zeroP) r) false v.fn v.fv).map Prod.snd)
theorem gone_cons {tf : PVal → Chg} {lays : Bool} (s : ByteArray) (r : List ByteArray) (v : PVal) : (atP tf lays v (s :: r)).gone = false := by
 have hF : ∀ q, (atF v s q).gone = false := fun q => by unfold atF; simp only; split <;> rfl
 rw [atP_cons]
 cases place s with
 | some n =>
  simp only
  split
  ·rfl
  ·split <;> rfl
 | none =>
  simp only
  split
  ·rfl
  ·split
   ·exact hF _
   ·split
    ·rfl
    ·exact hF _
theorem unsetR_at : ∀ (l : List ByteArray) (v x : PVal), Sound v → l ≠ [] → getP v l = some x → unsetR v l = (atP toGone false v l).v
 | [], _, _, _, h, _ => absurd rfl h
 | s :: r, v, x, hv, _, hg => by
  rw [getP] at hg
  cases hl : leads v s with
  | none => rw [hl] at hg; cases hg
  | some y =>
   rw [hl] at hg
   have hsy : Sound y := hv.part (leads_part hl)
   have ih := fun hne => unsetR_at r y x hsy hne hg
   rw [unsetR, atP_cons]
   cases hp : place s with
   | some n =>
    simp only
    have hk : v.k = 5 ∧ v.l[n]? = some y := by
     rw [leads_place hp] at hl
     by_cases hk : v.k = 5
     ·rw [if_pos hk] at hl; exact ⟨hk, hl⟩
     ·rw [if_neg hk] at hl; cases hl
    rw [if_neg (show ¬ v.k ≠ 5 from by simp [hk.1]), hk.2]
    simp only [Option.getD_some]
    cases r with
    | nil => rw [if_pos rfl, atP_nil]; rfl
    | cons t r =>
     rw [if_neg (by simp), ih (by simp)]
     unfold atL
     simp only [gone_cons, Bool.false_eq_true, if_false]
   | none =>
    simp only
    have hd := leads_doc hv hp hl
    rw [if_neg (show ¬ v.k ≠ 6 from by simp [hd.1]), hd.2.1]
    simp only [Option.getD_some]
    cases r with
    | nil =>
     rw [if_pos rfl, atP_nil]
     exact (with_gone hv.up hv.len rfl hd.2.2.1).symm
    | cons t r =>
     rw [if_neg (by simp), ih (by simp)]
     exact (with_at hv.up hv.len (gone_cons t r y)).symm
theorem unsetR_ask {v : PVal} {p : ByteArray} (h : askR v p ≠ 0) : unsetP v p = (zeroP, askR v p) := by
 have h1 := ask_also (also := []) h
 unfold unsetP
 rw [if_pos (by rw [h1]; exact h), h1]
theorem unsetR_none {v : PVal} {p : ByteArray} {l : List ByteArray} (h : askR v p = 0) (hs : stepsP p = some l) (hg : getP v l = none) : unsetP v p = (v, 0) := by
 unfold unsetP
 have h2 : gotP v p = none := by rw [got_good (ask_zero h).1 hs, hg]
 rw [if_neg (by simp [ask_nil h]), if_pos h2]
theorem unsetR_told {v x : PVal} {p : ByteArray} {l : List ByteArray} (hf : v.fits) (h : askR v p = 0) (hs : stepsP p = some l) (hg : getP v l = some x) : unsetP v p = (unsetR v l, 0) ∧ l ≠ [] := by
 have hgood := (ask_zero h).1
 have h2 : gotP v p = some x := by rw [got_good hgood hs, hg]
 obtain ⟨a, h3, h4, _⟩ := unset_gone hf h2
 obtain rfl : a = l := by rw [hs] at h3; injection h3 with h3; exact h3.symm
 have hne : a ≠ [] := by
  have := (stepsP_is h3).1
  intro e; subst e; simp at this
 exact ⟨by rw [h4, unsetR_at a v x ⟨hf, ((good_iff v).1 hgood).1⟩ hne hg], hne⟩
end Go.Proofs.YthjihdpleclejaaGreatDoor
namespace Go.Proofs.YthjihdpleclejaaGreatDoor
open Go.RowKit Go.Proofs
def UnR (S : Nat → Prop) (v : PVal) (w : World) (e : Ending) (w' : World) : Prop := ∃ cs, e = .returned (.agg cs.toArray) ∧ Below w.heap.size w w' ∧ Rd w' (fun c => S c ∨ From w.heap.size w' c) v cs
theorem un_keep {w w' w9 : World} {S S' : Nat → Prop} {g : Nat} {V : PVal} {cs : List Value} (h : Rd w' S' V cs) (hS : ∀ c, S' c → S c ∨ (g < c ∧ c < w'.heap.size)) (hSw : ∀ c, S c → c < w.heap.size) (hg : w.heap.size ≤ g) (hk : ∀ b, b ≠ g → w9.heap[b]? = w'.heap[b]?) (hz : w9.heap.size = w'.heap.size) : Rd w9 (fun c => S c ∨ From w.heap.size w9 c) V cs :=
 h.keep (fun c hc => (hS c hc).imp id (fun hc => ⟨by omega, by rw [hz]; exact hc.2⟩)) (fun c hc => hk c (by
  rcases hS c hc with h1 | h1
  ·have := hSw c h1; omega
  ·omega))
def UaS (A : Nat) (a0 a1 a2 a3 a4 : Value) (b o : Nat) (v0 v1 v2 v3 v4 : Value) (x : World) : Prop := x.cell? ⟨A, 0, none⟩ = some a0 ∧ x.cell? ⟨A, 1, none⟩ = some a1 ∧ x.cell? ⟨A, 2, none⟩ = some a2 ∧ x.cell? ⟨A, 3, none⟩ = some a3 ∧ x.cell? ⟨A, 4, none⟩ = some a4 ∧ (x.cell? ⟨b, o, none⟩ = some v0 ∧ x.cell? ⟨b, o + 1, none⟩ = some v1 ∧ x.cell? ⟨b, o + 2, none⟩ = some v2 ∧ x.cell? ⟨b, o + 3, none⟩ = some v3 ∧ x.cell? ⟨b, o + 4, none⟩ = some v4)
def UcS (A : Nat) (a0 a1 a2 a3 a4 : Value) (sb so : Nat) (s : ByteArray) (g : Nat) (v0 v1 v2 v3 v4 : Value) (x : World) : Prop := x.cell? ⟨A, 0, none⟩ = some a0 ∧ x.cell? ⟨A, 1, none⟩ = some a1 ∧ x.cell? ⟨A, 2, none⟩ = some a2 ∧ x.cell? ⟨A, 3, none⟩ = some a3 ∧ x.cell? ⟨A, 4, none⟩ = some a4 ∧ x.cell? ⟨sb, so, none⟩ = some (.string s) ∧ x.cell? ⟨g, 0, none⟩ = some v0 ∧ x.cell? ⟨g, 1, none⟩ = some v1 ∧ x.cell? ⟨g, 2, none⟩ = some v2 ∧ x.cell? ⟨g, 3, none⟩ = some v3 ∧ x.cell? ⟨g, 4, none⟩ = some v4
set_option maxRecDepth 100000 in
set_option maxHeartbeats 16000000 in
theorem runset_inL (V y : PVal) (s : ByteArray) (r : List ByteArray) (n : Nat) (hz : s.size ≤ 140737488355328) (hp : place s = some n) (hr : r ≠ []) (hy : V.l[n]? = some y) (hm : V.mass ≤ 100000000000) {S : Nat → Prop} {w : World} {cs : List Value} {sv : Value} (hS : ∀ c, S c → c < w.heap.size) (hV : Rd w S V cs) (hss : StrsAt w (Now w) (s :: r) sv)
  (ih : ∀ (w' : World) (ys : List Value) (sv' : Value), (∀ c, S c → c < w'.heap.size) → Rd w' S y ys → StrsAt w' (Now w') r sv' → Calls Tryz.prog 41 #[.agg ys.toArray, sv'] w' (UnR S (unsetR y r) w')) :
  Calls Tryz.prog 41 #[.agg cs.toArray, sv] w (UnR S (listV (V.l.set n (unsetR y r))) w) := by
 unfold UnR at ih ⊢
 obtain ⟨qv, hqv⟩ : ∃ Q, Q = unsetR y r := ⟨_, rfl⟩
 rw [← hqv] at ih ⊢
 clear hqv
 replace ih := hid ih
 have hrl : 1 ≤ r.length := by cases r with
  | nil => exact absurd rfl hr
  | cons _ _ => simp
 clear hr
 have hSw := hid hS
 obtain ⟨sa, sc, rfl, _⟩ := id hss
 obtain ⟨sb, so, rfl, hn1, hsc1, hsc2, hsb, hsc⟩ := hss.head
 have hss0 := hid hss
 replace hsb := hid hsb
 have hsc0 := hid hsc
 clear hss hn1 hsc
 simp only [List.length_cons] at hss0 ⊢
 have hpl := hid (fun w => rplace_calls s w hz)
 unfold placeZ at hpl
 rw [hp] at hpl
 have hV0 := hid hV
 obtain ⟨VX, hVX⟩ : ∃ VX, VX = V := ⟨_, rfl⟩
 rw [← hVX] at hV0 ⊢
 have hmX := hid (show VX.mass ≤ 100000000000 from by rw [hVX]; exact hm)
 have hnX := hid (show n < VX.l.length from by rw [hVX]; exact (List.getElem?_eq_some_iff.1 hy).1)
 obtain ⟨k, n0, str, l, fn, fv⟩ := V
 simp only [PVal.l] at hy
 obtain ⟨la, lc, fa, fc, rfl, _, _, _, _, _, _, _, hL, _⟩ := hV.inv
 obtain ⟨b, off, ys, rfl, hSb, hc, hry⟩ := hL.at_ hy
 obtain ⟨yk, yn, yt, ya, yl, yc, yf, ym, yg, rfl⟩ := hry.five
 have hmi : (n : Int) < (l.length : Int) := by have := (List.getElem?_eq_some_iff.1 hy).1; omega
 replace hc := hid hc
 replace hSb := hid hSb
 have hry0 := hid hry
 clear hL hry hV hVX hm hp hy hS
 obtain ⟨W0, hW0⟩ : ∃ W0, W0 = (w.alloc (.cells #[.int .i64 k, .int .i64 n0, .string str, .slice (some ⟨b, off, none⟩) l.length lc, .slice fa fv.length fc] 25)).alloc (.cells #[.int .i64 0, .int .i64 0, .string ⟨#[]⟩, .slice none 0 0, .slice none 0 0] 25) := ⟨_, rfl⟩
 have D : Hid (Below w.heap.size w W0) := by show Below _ _ _; rw [hW0]; exact ((below_new _ _).step (below_new _ _))
 have r2 : Hid (W0.heap[w.heap.size]? = some (.cells #[.int .i64 k, .int .i64 n0, .string str, .slice (some ⟨b, off, none⟩) l.length lc, .slice fa fv.length fc] 25 (0, 0))) := by show _ = _; rw [hW0]; exact (al_old (al_at rfl))
 have r4 : Hid (W0.heap[w.heap.size + 1]? = some (.cells #[.int .i64 0, .int .i64 0, .string ⟨#[]⟩, .slice none 0 0, .slice none 0 0] 25 (0, 0))) := by show _ = _; rw [hW0]; exact (al_at (by simp))
 have hW0s : Hid (w.heap.size + 1 < W0.heap.size) := lt_of_block r4.out
 go_enter Tryz.func41, Tryz.ntmps41
 go_upto_region 1 with fail
 rw [← hW0]
 clear hW0
 have s0 := (World.cell?_of_block (w := w) (D.out.block sb hsb.out)).trans hsc0.out
 go_wp2_with fail
 refine (hpl.out _).mono ?_
 rintro e w1 ⟨rfl, hw1⟩
 subst hw1
 clear hpl s0
 have hr0 : (1 : Int) < (r.length : Int) + 1 := by omega
 have hr1 : (1 : Int) ≤ (r.length : Int) + 1 := by omega
 replace hrl := hid hrl
 have ih2 := hid (fun (w' : World) (sv' : Value) (hb : Below w1.heap.size w1 w') (hs : StrsAt w' (Now w') r sv') => ih.out w' [.int .i64 yk, .int .i64 yn, .string yt, .slice ya yl yc, .slice yf ym yg] sv' (fun c h => Nat.lt_of_lt_of_le (hSw.out c h) (Nat.le_trans D.out.size hb.size)) (hry0.out.keep (fun _ h => h) (fun c h => (hb.block c (Nat.lt_of_lt_of_le (hSw.out c h) D.out.size)).trans (D.out.block c (hSw.out c h)))) hs)
 clear ih hry0
 go_upto_region 4 with fail
 clear hr0
 have hsk := hid (fun w' (h : Below w1.heap.size w1 w') => hss0.out.later (D.out.step h))
 have hSS : Hid (∀ x : World, (∀ c, c < w1.heap.size → x.heap[c]? = w1.heap[c]?) → UaS w.heap.size (.int .i64 k) (.int .i64 n0) (.string str) (.slice (some ⟨b, off, none⟩) l.length lc) (.slice fa fv.length fc) b (off + n * 5) (.int .i64 yk) (.int .i64 yn) (.string yt) (.slice ya yl yc) (.slice yf ym yg) x) := fun x h => by
  have h3 := (h _ (lt_of_block r2.out)).trans r2.out
  have hb := (h b (Nat.lt_of_lt_of_le (hSw.out b hSb.out) D.out.size)).trans (D.out.block b (hSw.out b hSb.out))
  exact ⟨box_at h3 rfl, box_at h3 rfl, box_at h3 rfl, box_at h3 rfl, box_at h3 rfl, (World.cell?_of_block (w := w) (a := ⟨b, off + n * 5, none⟩) hb).trans (by simpa using hc.out 0 _ rfl), (World.cell?_of_block (w := w) (a := ⟨b, off + n * 5 + 1, none⟩) hb).trans (hc.out 1 _ rfl), (World.cell?_of_block (w := w) (a := ⟨b, off + n * 5 + 2, none⟩) hb).trans (hc.out 2 _ rfl), (World.cell?_of_block (w := w) (a := ⟨b, off + n * 5 + 3, none⟩) hb).trans (hc.out 3 _ rfl), (World.cell?_of_block (w := w) (a := ⟨b, off + n * 5 + 4, none⟩) hb).trans (hc.out 4 _ rfl)⟩
 by_cases hc1 : sc = 1
 ·exfalso; have := hrl.out; omega
 refine wp_region_T (UaS w.heap.size (.int .i64 k) (.int .i64 n0) (.string str) (.slice (some ⟨b, off, none⟩) l.length lc) (.slice fa fv.length fc) b (off + n * 5) (.int .i64 yk) (.int .i64 yn) (.string yt) (.slice ya yl yc) (.slice yf ym yg)) 11 (by kernel_rfl) ?_
 have hT0 := hSS.out w1.drew (fun _ _ => rfl)
 ((refine wpAnyT_take (i := 0) (v := ?_) rfl (by kernel_rfl) (by kernel_rfl) (by kernel_rfl) (by kernel_rfl) (by exact fun _ _ _ h => h) (Or.inl ⟨by kernel_rfl, ?_⟩) hT0 ?_; rotate_left 1; focus (intro w hSw; unfold UaS at hSw; (try dsimp only at hSw); go_simp; try with_reducible rfl); (try simp only [List.getElem_toArray, List.getElem_cons_zero, List.getElem_cons_succ, Act.put, List.setIfInBounds_toArray, List.set_cons_zero, List.set_cons_succ])); (refine wpAnyT_take (i := 1) (v := ?_) rfl (by kernel_rfl) (by kernel_rfl) (by kernel_rfl) (by kernel_rfl) (by exact fun _ _ _ h => h) (Or.inl ⟨by kernel_rfl, ?_⟩) hT0 ?_; rotate_left 1; focus (intro w hSw; unfold UaS at hSw; (try dsimp only at hSw); go_simp; try with_reducible rfl); (try simp only [List.getElem_toArray, List.getElem_cons_zero, List.getElem_cons_succ, Act.put, List.setIfInBounds_toArray, List.set_cons_zero, List.set_cons_succ])); (refine wpAnyT_take (i := 2) (v := ?_) rfl (by kernel_rfl) (by kernel_rfl) (by kernel_rfl) (by kernel_rfl) (by exact fun _ _ _ h => h) (Or.inl ⟨by kernel_rfl, ?_⟩) hT0 ?_; rotate_left 1; focus (intro w hSw; unfold UaS at hSw; (try dsimp only at hSw); go_simp; try with_reducible rfl); (try simp only [List.getElem_toArray, List.getElem_cons_zero, List.getElem_cons_succ, Act.put, List.setIfInBounds_toArray, List.set_cons_zero, List.set_cons_succ])); (refine wpAnyT_take (i := 3) (v := ?_) rfl (by kernel_rfl) (by kernel_rfl) (by kernel_rfl) (by kernel_rfl) (by exact fun _ _ _ h => h) (Or.inl ⟨by kernel_rfl, ?_⟩) hT0 ?_; rotate_left 1; focus (intro w hSw; unfold UaS at hSw; (try dsimp only at hSw); go_simp; try with_reducible rfl); (try simp only [List.getElem_toArray, List.getElem_cons_zero, List.getElem_cons_succ, Act.put, List.setIfInBounds_toArray, List.set_cons_zero, List.set_cons_succ])); (refine wpAnyT_take (i := 4) (v := ?_) rfl (by kernel_rfl) (by kernel_rfl) (by kernel_rfl) (by kernel_rfl) (by exact fun _ _ _ h => h) (Or.inl ⟨by kernel_rfl, ?_⟩) hT0 ?_; rotate_left 1; focus (intro w hSw; unfold UaS at hSw; (try dsimp only at hSw); go_simp; try with_reducible rfl); (try simp only [List.getElem_toArray, List.getElem_cons_zero, List.getElem_cons_succ, Act.put, List.setIfInBounds_toArray, List.set_cons_zero, List.set_cons_succ])); (refine wpAnyT_take (i := 5) (v := ?_) rfl (by kernel_rfl) (by kernel_rfl) (by kernel_rfl) (by kernel_rfl) (by exact fun _ _ _ h => h) (Or.inl ⟨by kernel_rfl, ?_⟩) hT0 ?_; rotate_left 1; focus (intro w hSw; unfold UaS at hSw; (try dsimp only at hSw); go_simp; try with_reducible rfl); (try simp only [List.getElem_toArray, List.getElem_cons_zero, List.getElem_cons_succ, Act.put, List.setIfInBounds_toArray, List.set_cons_zero, List.set_cons_succ])); (refine wpAnyT_take (i := 6) (v := ?_) rfl (by kernel_rfl) (by kernel_rfl) (by kernel_rfl) (by kernel_rfl) (by exact fun _ _ _ h => h) (Or.inl ⟨by kernel_rfl, ?_⟩) hT0 ?_; rotate_left 1; focus (intro w hSw; unfold UaS at hSw; (try dsimp only at hSw); go_simp; try with_reducible rfl); (try simp only [List.getElem_toArray, List.getElem_cons_zero, List.getElem_cons_succ, Act.put, List.setIfInBounds_toArray, List.set_cons_zero, List.set_cons_succ])); (refine wpAnyT_take (i := 7) (v := ?_) rfl (by kernel_rfl) (by kernel_rfl) (by kernel_rfl) (by kernel_rfl) (by exact fun _ _ _ h => h) (Or.inl ⟨by kernel_rfl, ?_⟩) hT0 ?_; rotate_left 1; focus (intro w hSw; unfold UaS at hSw; (try dsimp only at hSw); go_simp; try with_reducible rfl); (try simp only [List.getElem_toArray, List.getElem_cons_zero, List.getElem_cons_succ, Act.put, List.setIfInBounds_toArray, List.set_cons_zero, List.set_cons_succ])); (refine wpAnyT_take (i := 8) (v := ?_) rfl (by kernel_rfl) (by kernel_rfl) (by kernel_rfl) (by kernel_rfl) (by exact fun _ _ _ h => h) (Or.inl ⟨by kernel_rfl, ?_⟩) hT0 ?_; rotate_left 1; focus (intro w hSw; unfold UaS at hSw; (try dsimp only at hSw); go_simp; try with_reducible rfl); (try simp only [List.getElem_toArray, List.getElem_cons_zero, List.getElem_cons_succ, Act.put, List.setIfInBounds_toArray, List.set_cons_zero, List.set_cons_succ])))
 refine wpAnyT_one (i := 9) (by kernel_rfl) rfl (fun K hK => ?_)
 go_simp
 refine (ih2.out w1.drew _ (Below.refl w1.heap.size w1).drew (hsk.out _ (Below.refl w1.heap.size w1).drew).tail).mono ?_
 rintro e w4 ⟨cs4, rfl, h4, hr4⟩
 have E := hid ((Below.refl w1.heap.size w1).drew.step h4)
 have D4 := hid (D.out.step E.out)
 have hs4 : Hid (w1.heap.size ≤ w4.heap.size) := E.out.size
 have hT1 := hSS.out w4 E.out.block
 obtain ⟨zk, zn, zt, qa, ql, qc, qf, qm, qg, rfl⟩ := hr4.five
 replace hr4 := hid hr4
 clear h4 hT0 ih2
 (refine hK.out _ _ (fun _ => hT1) (fun _ => ?_); clear hK K; (try simp only [Act.put, List.setIfInBounds_toArray, List.set_cons_zero, List.set_cons_succ]))
 refine wpAnyT_one (i := 10) (by kernel_rfl) rfl (fun K hK => ?_)
 go_simp
 refine (rput_calls (S := fun c => S c ∨ From w1.heap.size w4 c) VX qv n (w := w4) (cs := [.int .i64 k, .int .i64 n0, .string str, .slice (some ⟨b, off, none⟩) l.length lc, .slice fa fv.length fc]) (xs := [.int .i64 zk, .int .i64 zn, .string zt, .slice qa ql qc, .slice qf qm qg]) (fun c h => h.elim (fun h => Nat.lt_of_lt_of_le (hSw.out c h) D4.out.size) (fun h => h.2)) (by have := hmX.out; omega) hnX.out (hV0.out.keep (fun _ h => .inl h) (fun c hc => D4.out.block c (hSw.out c hc))) hr4.out).mono ?_
 rintro e w5 ⟨cs5, rfl, h5, hr5⟩
 have E5 := hid (E.out.step h5)
 have D5 := hid (D.out.step E5.out)
 have hs5 : Hid (w4.heap.size ≤ w5.heap.size) := h5.size
 have hT2 := hSS.out w5 E5.out.block
 obtain ⟨mk, mn, mt, ma, ml, mc, mf, mm, mg, rfl⟩ := hr5.five
 replace hr5 := hid hr5
 clear h5 hT1 hr4
 (refine hK.out _ _ (fun _ => hT2) (fun _ => ?_); clear hK K; (try simp only [Act.put, List.setIfInBounds_toArray, List.set_cons_zero, List.set_cons_succ]))
 have p4 := hid ((E5.out.block _ (lt_of_block r4.out)).trans r4.out)
 have c0 := box_at (j := 0) p4.out rfl
 have c1 := box_at (j := 1) p4.out rfl
 have c2 := box_at (j := 2) p4.out rfl
 have c3 := box_at (j := 3) p4.out rfl
 have c4 := box_at (j := 4) p4.out rfl
 have f0 := box_free p4.out
 refine wpAnyT_one (i := 11) (by kernel_rfl) rfl (fun K hK => ?_)
 go_simp
 (refine hK.out _ _ (fun h => absurd h (by decide)) (fun _ => ?_); clear hK K; (try simp only [Act.put, List.setIfInBounds_toArray]))
 refine wpAnyT_done (by kernel_rfl) ?_ _
 clear c0 c1 c2 c3 c4
 clear f0 hT2
 have hbz := hid (set5_below D5.out (Nat.le_add_right w.heap.size 1) (.int .i64 mk) (.int .i64 mn) (.string mt) (.slice ma ml mc) (.slice mf mm mg))
 have rz := hid (set5_box (u0 := .int .i64 mk) (u1 := .int .i64 mn) (u2 := .string mt) (u3 := .slice ma ml mc) (u4 := .slice mf mm mg) p4.out)
 have hkp := hid (fun bq (hb : bq ≠ w.heap.size + 1) => set5_other w5 (w.heap.size + 1) (.int .i64 mk) (.int .i64 mn) (.string mt) (.slice ma ml mc) (.slice mf mm mg) (b := bq) hb)
 have hsz9 := hid (set5_size w5 (w.heap.size + 1) (.int .i64 mk) (.int .i64 mn) (.string mt) (.slice ma ml mc) (.slice mf mm mg))
 unfold set5 at hbz rz hkp hsz9
 generalize ((((w5.setCell ⟨w.heap.size + 1, 0, none⟩ (.int .i64 mk)).setCell ⟨w.heap.size + 1, 1, none⟩ (.int .i64 mn)).setCell ⟨w.heap.size + 1, 2, none⟩ (.string mt)).setCell ⟨w.heap.size + 1, 3, none⟩ (.slice ma ml mc)).setCell ⟨w.heap.size + 1, 4, none⟩ (.slice mf mm mg) = w9 at *
 go_wp2_with fail
 have z0 := box_at (j := 0) rz.out rfl
 have z1 := box_at (j := 1) rz.out rfl
 have z2 := box_at (j := 2) rz.out rfl
 have z3 := box_at (j := 3) rz.out rfl
 have z4 := box_at (j := 4) rz.out rfl
 refine ⟨rfl, _, by simp [results, Tryz.results41, go_sem, z0, z1, z2, z3, z4] <;> exact ⟨rfl, rfl⟩, [.int .i64 mk, .int .i64 mn, .string mt, .slice ma ml mc, .slice mf mm mg], rfl, hbz.out, ?_⟩
 have e9 := hsz9.out
 have e8 := hW0s.out
 exact un_keep (g := w.heap.size + 1) hr5.out (fun c h => by have e4 := hs4.out; have e5 := hs5.out; exact h.elim (fun h => h.imp id (fun h => ⟨by have := h.1; omega, by have := h.2; omega⟩)) (fun h => .inr ⟨by have := h.1; omega, h.2⟩)) hSw.out (Nat.le_add_right _ _) hkp.out hsz9.out
set_option maxRecDepth 100000 in
set_option maxHeartbeats 16000000 in
theorem runset_lastF (V : PVal) (s : ByteArray) (hz : s.size ≤ 140737488355328) (hp : place s = none) (hm : V.mass ≤ 100000000000) {S : Nat → Prop} {w : World} {cs : List Value} {sv : Value} (hS : ∀ c, S c → c < w.heap.size) (hV : Rd w S V cs) (hss : StrsAt w (Now w) [s] sv) :
  Calls Tryz.prog 41 #[.agg cs.toArray, sv] w (UnR S (docL ((withR s zeroP true V.fn V.fv).map Prod.fst) ((withR s zeroP true V.fn V.fv).map Prod.snd)) w) := by
 unfold UnR
 have hwi := hid (fun (w' : World) (h : Below w.heap.size w w') => rwith_calls (S := S) V zeroP s hz true (w := w') (cs := cs) (xs := [.int .i64 0, .int .i64 0, .string ByteArray.empty, .slice none 0 0, .slice none 0 0]) (fun c hc => Nat.lt_of_lt_of_le (hS c hc) h.size) hm (hV.keep (fun _ h => h) (fun c hc => h.block c (hS c hc))) rd_zeroP)
 obtain ⟨RV, hRV⟩ : ∃ R, R = docL ((withR s zeroP true V.fn V.fv).map Prod.fst) ((withR s zeroP true V.fn V.fv).map Prod.snd) := ⟨_, rfl⟩
 rw [← hRV] at hwi ⊢
 clear hRV
 have hSw := hid hS
 obtain ⟨sa, sc, rfl, _⟩ := id hss
 obtain ⟨sb, so, rfl, hn1, hsc1, hsc2, hsb, hsc⟩ := hss.head
 have hss0 := hid hss
 replace hsb := hid hsb
 have hsc0 := hid hsc
 clear hss hn1 hsc
 simp only [List.length_cons, List.length_nil] at hss0 ⊢
 have hpl := hid (fun w => rplace_calls s w hz)
 unfold placeZ at hpl
 rw [hp] at hpl
 obtain ⟨vk, vn, vt, va, vl, vc, vf, vm, vg, rfl⟩ := hV.five
 clear hV hp hS hm
 obtain ⟨W0, hW0⟩ : ∃ W0, W0 = (w.alloc (.cells #[.int .i64 vk, .int .i64 vn, .string vt, .slice va vl vc, .slice vf vm vg] 25)).alloc (.cells #[.int .i64 0, .int .i64 0, .string ⟨#[]⟩, .slice none 0 0, .slice none 0 0] 25) := ⟨_, rfl⟩
 have D : Hid (Below w.heap.size w W0) := by show Below _ _ _; rw [hW0]; exact ((below_new _ _).step (below_new _ _))
 have r2 : Hid (W0.heap[w.heap.size]? = some (.cells #[.int .i64 vk, .int .i64 vn, .string vt, .slice va vl vc, .slice vf vm vg] 25 (0, 0))) := by show _ = _; rw [hW0]; exact (al_old (al_at rfl))
 have r4 : Hid (W0.heap[w.heap.size + 1]? = some (.cells #[.int .i64 0, .int .i64 0, .string ⟨#[]⟩, .slice none 0 0, .slice none 0 0] 25 (0, 0))) := by show _ = _; rw [hW0]; exact (al_at (by simp))
 have hW0s : Hid (w.heap.size + 1 < W0.heap.size) := lt_of_block r4.out
 go_enter Tryz.func41, Tryz.ntmps41
 go_upto_region 1 with fail
 rw [← hW0]
 clear hW0
 have s0 := (World.cell?_of_block (w := w) (D.out.block sb hsb.out)).trans hsc0.out
 go_wp2_with fail
 refine (hpl.out _).mono ?_
 rintro e w1 ⟨rfl, hw1⟩
 subst hw1
 clear hpl s0
 go_upto_region 8 with fail
 have hSS : Hid (∀ x : World, (∀ c, c < w1.heap.size → x.heap[c]? = w1.heap[c]?) → RhS w.heap.size sb so (.int .i64 vk) (.int .i64 vn) (.string vt) (.slice va vl vc) (.slice vf vm vg) s x) := fun x h => by
  have hB := (h _ (lt_of_block r2.out)).trans r2.out
  have hc := (World.cell?_of_block (w := w1) (a := ⟨sb, so, none⟩) (h sb (Nat.lt_of_lt_of_le hsb.out D.out.size))).trans ((D.out.cell (p := ⟨sb, _, none⟩) hsb.out).trans hsc0.out)
  exact ⟨box_at hB rfl, box_at hB rfl, box_at hB rfl, box_at hB rfl, box_at hB rfl, hc⟩
 refine wp_region_T (RhS w.heap.size sb so (.int .i64 vk) (.int .i64 vn) (.string vt) (.slice va vl vc) (.slice vf vm vg) s) 6 (by kernel_rfl) ?_
 have hT0 := hSS.out w1.drew (fun _ _ => rfl)
 ((refine wpAnyT_take (i := 0) (v := ?_) rfl (by kernel_rfl) (by kernel_rfl) (by kernel_rfl) (by kernel_rfl) (by exact fun _ _ _ h => h) (Or.inl ⟨by kernel_rfl, ?_⟩) hT0 ?_; rotate_left 1; focus (intro w hSw; unfold RhS at hSw; (try dsimp only at hSw); go_simp; try with_reducible rfl); (try simp only [List.getElem_toArray, List.getElem_cons_zero, List.getElem_cons_succ, Act.put, List.setIfInBounds_toArray, List.set_cons_zero, List.set_cons_succ])); (refine wpAnyT_take (i := 1) (v := ?_) rfl (by kernel_rfl) (by kernel_rfl) (by kernel_rfl) (by kernel_rfl) (by exact fun _ _ _ h => h) (Or.inl ⟨by kernel_rfl, ?_⟩) hT0 ?_; rotate_left 1; focus (intro w hSw; unfold RhS at hSw; (try dsimp only at hSw); go_simp; try with_reducible rfl); (try simp only [List.getElem_toArray, List.getElem_cons_zero, List.getElem_cons_succ, Act.put, List.setIfInBounds_toArray, List.set_cons_zero, List.set_cons_succ])); (refine wpAnyT_take (i := 2) (v := ?_) rfl (by kernel_rfl) (by kernel_rfl) (by kernel_rfl) (by kernel_rfl) (by exact fun _ _ _ h => h) (Or.inl ⟨by kernel_rfl, ?_⟩) hT0 ?_; rotate_left 1; focus (intro w hSw; unfold RhS at hSw; (try dsimp only at hSw); go_simp; try with_reducible rfl); (try simp only [List.getElem_toArray, List.getElem_cons_zero, List.getElem_cons_succ, Act.put, List.setIfInBounds_toArray, List.set_cons_zero, List.set_cons_succ])); (refine wpAnyT_take (i := 3) (v := ?_) rfl (by kernel_rfl) (by kernel_rfl) (by kernel_rfl) (by kernel_rfl) (by exact fun _ _ _ h => h) (Or.inl ⟨by kernel_rfl, ?_⟩) hT0 ?_; rotate_left 1; focus (intro w hSw; unfold RhS at hSw; (try dsimp only at hSw); go_simp; try with_reducible rfl); (try simp only [List.getElem_toArray, List.getElem_cons_zero, List.getElem_cons_succ, Act.put, List.setIfInBounds_toArray, List.set_cons_zero, List.set_cons_succ])); (refine wpAnyT_take (i := 4) (v := ?_) rfl (by kernel_rfl) (by kernel_rfl) (by kernel_rfl) (by kernel_rfl) (by exact fun _ _ _ h => h) (Or.inl ⟨by kernel_rfl, ?_⟩) hT0 ?_; rotate_left 1; focus (intro w hSw; unfold RhS at hSw; (try dsimp only at hSw); go_simp; try with_reducible rfl); (try simp only [List.getElem_toArray, List.getElem_cons_zero, List.getElem_cons_succ, Act.put, List.setIfInBounds_toArray, List.set_cons_zero, List.set_cons_succ])))
 refine wpAnyT_one (i := 5) (by kernel_rfl) rfl (fun K hK => ?_)
 go_simp
 refine (hwi.out w1.drew (D.out.step (Below.refl w1.heap.size w1).drew)).mono ?_
 rintro e w5 ⟨cs5, rfl, h5, hr5⟩
 have E5 := hid ((Below.refl w1.heap.size w1).drew.step h5)
 have D5 := hid (D.out.step E5.out)
 have hs5 : Hid (w1.heap.size ≤ w5.heap.size) := E5.out.size
 have hT2 := hSS.out w5 E5.out.block
 obtain ⟨mk, mn, mt, ma, ml, mc, mf, mm, mg, rfl⟩ := hr5.five
 replace hr5 := hid hr5
 clear h5 hT0
 (refine hK.out _ _ (fun _ => hT2) (fun _ => ?_); clear hK K; (try simp only [Act.put, List.setIfInBounds_toArray, List.set_cons_zero, List.set_cons_succ]))
 have p4 := hid ((E5.out.block _ (lt_of_block r4.out)).trans r4.out)
 have c0 := box_at (j := 0) p4.out rfl
 have c1 := box_at (j := 1) p4.out rfl
 have c2 := box_at (j := 2) p4.out rfl
 have c3 := box_at (j := 3) p4.out rfl
 have c4 := box_at (j := 4) p4.out rfl
 have f0 := box_free p4.out
 refine wpAnyT_one (i := 6) (by kernel_rfl) rfl (fun K hK => ?_)
 go_simp
 (refine hK.out _ _ (fun h => absurd h (by decide)) (fun _ => ?_); clear hK K; (try simp only [Act.put, List.setIfInBounds_toArray]))
 refine wpAnyT_done (by kernel_rfl) ?_ _
 clear c0 c1 c2 c3 c4
 clear f0 hT2
 have hbz := hid (set5_below D5.out (Nat.le_add_right w.heap.size 1) (.int .i64 mk) (.int .i64 mn) (.string mt) (.slice ma ml mc) (.slice mf mm mg))
 have rz := hid (set5_box (u0 := .int .i64 mk) (u1 := .int .i64 mn) (u2 := .string mt) (u3 := .slice ma ml mc) (u4 := .slice mf mm mg) p4.out)
 have hkp := hid (fun bq (hb : bq ≠ w.heap.size + 1) => set5_other w5 (w.heap.size + 1) (.int .i64 mk) (.int .i64 mn) (.string mt) (.slice ma ml mc) (.slice mf mm mg) (b := bq) hb)
 have hsz9 := hid (set5_size w5 (w.heap.size + 1) (.int .i64 mk) (.int .i64 mn) (.string mt) (.slice ma ml mc) (.slice mf mm mg))
 unfold set5 at hbz rz hkp hsz9
 generalize ((((w5.setCell ⟨w.heap.size + 1, 0, none⟩ (.int .i64 mk)).setCell ⟨w.heap.size + 1, 1, none⟩ (.int .i64 mn)).setCell ⟨w.heap.size + 1, 2, none⟩ (.string mt)).setCell ⟨w.heap.size + 1, 3, none⟩ (.slice ma ml mc)).setCell ⟨w.heap.size + 1, 4, none⟩ (.slice mf mm mg) = w9 at *
 go_wp2_with fail
 have z0 := box_at (j := 0) rz.out rfl
 have z1 := box_at (j := 1) rz.out rfl
 have z2 := box_at (j := 2) rz.out rfl
 have z3 := box_at (j := 3) rz.out rfl
 have z4 := box_at (j := 4) rz.out rfl
 refine ⟨rfl, _, by simp [results, Tryz.results41, go_sem, z0, z1, z2, z3, z4] <;> exact ⟨rfl, rfl⟩, [.int .i64 mk, .int .i64 mn, .string mt, .slice ma ml mc, .slice mf mm mg], rfl, hbz.out, ?_⟩
 have e9 := hsz9.out
 have e8 := hW0s.out
 exact un_keep (g := w.heap.size + 1) hr5.out (fun c h => h.imp id (fun h => ⟨by have h8 : w1.heap.size ≤ c := h.1; omega, h.2⟩)) hSw.out (Nat.le_add_right _ _) hkp.out hsz9.out
end Go.Proofs.YthjihdpleclejaaGreatDoor
