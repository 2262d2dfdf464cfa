/-
  Walk: slices.Insert of one field into a row of the call's own.
-/
import Derived.Test.YthjihdpleclejaaGreatDoorMgPth10
import Derived.Test.YthjihdpleclejaaGreatDoorMgPthV
namespace Go.Proofs.YthjihdpleclejaaGreatDoor
open Go.RowKit Go.Proofs
theorem insA_flat {α : Type} (css : List (List α)) (i : Nat) (x : List α) : (insA css i x).flatten = (css.take i).flatten ++ (x ++ (css.drop i).flatten) := by
 simp [insA]
theorem insA_len' {α : Type} (l : List α) (i : Nat) (x : α) (h : i ≤ l.length) : (insA l i x).length = l.length + 1 := by simp [insA]; omega
theorem insA_end {α : Type} (l : List α) (x : α) : insA l l.length x = l ++ [x] := by simp [insA]
def Insd (base : Nat) (v : Value) (css : List (List Value)) (i : Nat) (x : List Value) (w : World) (e : Ending) (w' : World) : Prop :=
 ∃ v', e = .returned v' ∧ w.grownBy w' v.ownBlock ∧ w'.ownsRow base 54 6 v' (css.length + 1) (insA css i x).flatten
theorem ins_cells {w : World} {g : Nat} {A x C : List Value} {a : Nat} (hA : A.length = a) (hx : x.length = 6) (h1 : ∀ (j : Nat) u, A[j]? = some u → w.cell? ⟨g, j, none⟩ = some u) (h2 : ∀ (j : Nat) u, x[j]? = some u → w.cell? ⟨g, a + j, none⟩ = some u) (h3 : ∀ (j : Nat) u, C[j]? = some u → w.cell? ⟨g, a + 6 + j, none⟩ = some u) :
  ∀ (j : Nat) u, (A ++ (x ++ C))[j]? = some u → w.cell? ⟨g, j, none⟩ = some u := fun j u h => by
 rw [List.getElem?_append] at h
 split at h
 ·exact h1 j u h
 ·rw [List.getElem?_append] at h
  split at h
  ·have := h2 _ u h
   rwa [show a + (j - A.length) = j by omega] at this
  ·have := h3 _ u h
   rwa [show a + 6 + (j - A.length - x.length) = j by omega] at this
set_option maxRecDepth 100000 in
set_option maxHeartbeats 2000000 in
theorem insNil_calls {w : World} {base vb : Nat} {x : List Value} (hbase : base ≤ w.heap.size) (hx6 : x.length = 6) (hx1 : ∀ u ∈ x, u.oneCell' = true) (hvx : w.heap[vb]? = some (.cells x.toArray 54 (0, 0))) :
  Calls Tryz.prog 69 #[.slice none 0 0, .int .i64 0, .slice (some ⟨vb, 0, none⟩) 1 1] w (Insd base (.slice none 0 0) [] 0 x w) := by
 obtain ⟨i0, hi, hz0, hz1, hz2⟩ := info_parts info_fldc
 have hvs : Hid (∀ ad, (some ⟨vb, 0, none⟩ : Option Addr) = some ad → ∀ j u, x[j]? = some u → w.cell? (ad.add j) = some u) := fun ad had j u hu => by
  obtain rfl := Option.some.inj had
  rw [addr_at, Nat.zero_add]
  exact box_at hvx (by simpa using hu)
 replace hx1 := hid hx1
 have ho := hid (World.ownsRow_nil w base 54 6)
 unfold Insd
 go_enter Tryz.func69, Tryz.ntmps69
 go_wp2_with (at_builtin; (refine wpList_append_own_any _ rfl (.tmp 23) (.tmp 24) 23 rfl base 54 i0 (Value.agg #[.string ByteArray.empty, .int .i64 0, .int .i64 0, .string ByteArray.empty, .slice none 0 0, .slice none 0 0]) 6 96 Tryz.underlying23 hi hz0 hz1 hz2 rfl (by decide) _ 0 [] rfl ho.out (some ⟨vb, 0, none⟩) 1 1 x rfl (by rw [hx6]) (fun h => by cases h) hvs.out hx1.out (by unfold maxLen; omega) (by omega) hbase ?_); intro v2 w2 hown2 hg2)
 go_ret
 exact ⟨_, rfl, hg2, by simpa [insA] using hown2⟩
set_option maxRecDepth 100000 in
set_option maxHeartbeats 4000000 in
theorem insEnd_calls {w : World} {base g cap vb : Nat} {css : List (List Value)} {x : List Value} (hown : w.ownsRow base 54 6 (.slice (some ⟨g, 0, none⟩) css.length cap) css.length css.flatten) (hl : css.length ≤ 1000000000000) (hbase : base ≤ w.heap.size) (hx6 : x.length = 6) (hx1 : ∀ u ∈ x, u.oneCell' = true) (hvx : w.heap[vb]? = some (.cells x.toArray 54 (0, 0))) :
  Calls Tryz.prog 69 #[.slice (some ⟨g, 0, none⟩) css.length cap, .int .i64 css.length, .slice (some ⟨vb, 0, none⟩) 1 1] w (Insd base (.slice (some ⟨g, 0, none⟩) css.length cap) css css.length x w) := by
 obtain ⟨i0, hi, hz0, hz1, hz2⟩ := info_parts info_fldc
 have hvs : Hid (∀ ad, (some ⟨vb, 0, none⟩ : Option Addr) = some ad → ∀ j u, x[j]? = some u → w.cell? (ad.add j) = some u) := fun ad had j u hu => by
  obtain rfl := Option.some.inj had
  rw [addr_at, Nat.zero_add]
  exact box_at hvx (by simpa using hu)
 replace hx1 := hid hx1
 obtain ⟨hnc, hcm, _⟩ := own_size hown
 replace hown := hid hown
 have e1 : (css.length : Int) ≤ (cap : Int) := by omega
 unfold Insd
 rw [insA_end, List.flatten_append]
 obtain ⟨FL, hFL⟩ : ∃ FL, FL = css.flatten := ⟨_, rfl⟩
 rw [← hFL] at hown ⊢
 obtain ⟨n, hn⟩ : ∃ n, n = css.length := ⟨_, rfl⟩
 rw [← hn] at hown hnc hl e1 ⊢
 clear hFL hn
 go_enter Tryz.func69, Tryz.ntmps69
 go_wp2_with (at_builtin; (refine wpList_append_own_any _ rfl (.tmp 23) (.tmp 24) 23 rfl base 54 i0 (Value.agg #[.string ByteArray.empty, .int .i64 0, .int .i64 0, .string ByteArray.empty, .slice none 0 0, .slice none 0 0]) 6 96 Tryz.underlying23 hi hz0 hz1 hz2 rfl (by decide) _ n FL rfl hown.out (some ⟨vb, 0, none⟩) 1 1 x rfl (by rw [hx6]) (fun h => by cases h) hvs.out hx1.out (by unfold maxLen; omega) (by omega) hbase ?_); intro v2 w2 hown2 hg2)
 all_goals
  go_ret
  exact ⟨_, rfl, hg2, by simpa using hown2⟩
set_option maxRecDepth 100000 in
set_option maxHeartbeats 8000000 in
theorem insRoom_calls {w : World} {base g cap vb : Nat} {css : List (List Value)} {x : List Value} (hown : w.ownsRow base 54 6 (.slice (some ⟨g, 0, none⟩) css.length cap) css.length css.flatten) (h6 : ∀ cs ∈ css, cs.length = 6) (h1 : ∀ cs ∈ css, ∀ u ∈ cs, u.oneCell' = true) (hl : css.length ≤ 1000000000000) (hx6 : x.length = 6) (hx1 : ∀ u ∈ x, u.oneCell' = true) (hvx : w.heap[vb]? = some (.cells x.toArray 54 (0, 0))) (hvb : vb ≠ g) {i : Nat} (hi : i < css.length) (hroom : css.length + 1 ≤ cap) :
  Calls Tryz.prog 69 #[.slice (some ⟨g, 0, none⟩) css.length cap, .int .i64 i, .slice (some ⟨vb, 0, none⟩) 1 1] w (Insd base (.slice (some ⟨g, 0, none⟩) css.length cap) css i x w) := by
 obtain ⟨hnc, hcm, hbg, _, cur, hcur, hcs⟩ := own_size hown
 have hfl := flat_len 6 css h6
 have hsz : (Tryz.prog.info? 54).map (·.size) = some 6 := by
  obtain ⟨i0, hi0, h0, h1, h2⟩ := info_parts info_fldc
  rw [hi0]; simp [h1]
 have hdl : (css.drop i).flatten.length = (css.length - i) * 6 := by rw [flat_len 6 _ (fun c hc => h6 c (List.mem_of_mem_drop hc)), List.length_drop]
 have htl : (css.take i).flatten.length = i * 6 := by rw [flat_len 6 _ (fun c hc => h6 c (List.mem_of_mem_take hc)), List.length_take]; omega
 have hd1 : ∀ u ∈ (css.drop i).flatten, u.oneCell' = true := fun u hu => by
  obtain ⟨cs, hc, hu⟩ := List.mem_flatten.1 hu
  exact h1 cs (List.mem_of_mem_drop hc) u hu
 have hsp : ∀ o, o < cap * 6 → (w.cell? ⟨g, o, none⟩).isSome = true := fun o ho => own_there hown ho
 have hfz := fun o => hown.frozenAt o
 have hov : ∀ lb cb, (callFunc 91 #[.slice (some ⟨vb, 0, none⟩) 1 1, .slice (some ⟨g, (i + 1) * 6, none⟩) lb cb]).run Tryz.prog w = .ok (.value (.bool false)) w := fun lb cb => by
  rw [run_callFunc_extern Tryz.func91 (by kernel_rfl) (by kernel_rfl) (by kernel_rfl) (e := Extern.SlicesOverlaps.overlaps #[23, 23] #[4]) (by kernel_rfl),
   Lib.run_overlaps_apart w 23 4 54 Tryz.underlying23 6 Tryz.sizeOf54 ⟨vb, 0, none⟩ ⟨g, (i + 1) * 6, none⟩ 1 1 lb cb hvb 54 54 x.length cur.size (by simp [World.shape?, hvx]) (by simp [World.shape?, hcur]) (by rw [hcs]; omega) (by simp [World.frozen?, hvx]) (by simp [World.frozen?, hvx])]
  rfl
 have hcp1 : ∀ ty dc sc, (Builtin.copy_ #[23, 23] ty #[.slice (some ⟨g, (i + 1) * 6, none⟩) (css.length + 1 - (i + 1)) dc, .slice (some ⟨g, i * 6, none⟩) (css.length + 1 - i) sc]).run Tryz.prog w.drew = .ok (goInt (Nat.min (css.length + 1 - i) (css.length + 1 - (i + 1)))) (w.drew.setCells g ((i + 1) * 6) (css.drop i).flatten) := fun ty dc sc =>
  run_copy_multi w.drew _ _ ty 54 6 g ((i + 1) * 6) _ dc ⟨g, i * 6, none⟩ _ sc (css.drop i).flatten Tryz.underlying23 hsz (by rw [hdl]; simp only [Nat.min_def]; split <;> omega)
   (fun j u hj => by
    rw [addr_at]
    show w.cell? _ = _
    rw [hown.cellAt (i * 6 + j) (by have := (List.getElem?_eq_some_iff.1 hj).1; rw [hdl] at this; omega)]
    rw [← flat_drop 6 css h6, List.getElem?_drop] at hj
    exact hj)
   (fun j hj => hsp _ (by rw [hdl] at hj; omega)) (fun j hj => hfz _) hd1
 obtain ⟨W1, hW1⟩ : ∃ W1, W1 = w.drew.setCells g ((i + 1) * 6) (css.drop i).flatten := ⟨_, rfl⟩
 have hsp1 : ∀ o, o < cap * 6 → (W1.cell? ⟨g, o, none⟩).isSome = true := fun o ho => by
  obtain ⟨cur', h6', h7'⟩ := setCells_row g 54 (0, 0) (css.drop i).flatten ((i + 1) * 6) w.drew cur hcur
  rw [hW1, cell_of_row _ g o cur' _ (0, 0) h6', Array.getElem?_eq_getElem (by omega)]
  rfl
 have hfz1 : ∀ o, W1.frozen? ⟨g, o, none⟩ = false := fun o => by rw [hW1, World.frozen?_setCells]; exact hfz o
 have hvx1 : W1.heap[vb]? = some (.cells x.toArray 54 (0, 0)) := by
  rw [hW1]
  exact ((setCells_grown g _ _ w.drew).block vb (lt_of_block hvx) (fun e => hvb (by injection e))).trans hvx
 have hcp2 : ∀ (W : World), (∀ y, W.cell? y = W1.cell? y) → (∀ y, W.frozen? y = W1.frozen? y) → ∀ ty dc, (Builtin.copy_ #[23, 23] ty #[.slice (some ⟨g, i * 6, none⟩) (css.length + 1 - i) dc, .slice (some ⟨vb, 0, none⟩) 1 1]).run Tryz.prog W = .ok (goInt (Nat.min 1 (css.length + 1 - i))) (W.setCells g (i * 6) x) := fun W hWc hWf ty dc =>
  run_copy_multi W _ _ ty 54 6 g (i * 6) _ dc ⟨vb, 0, none⟩ 1 1 x Tryz.underlying23 hsz (by simp only [Nat.min_def]; split <;> omega)
   (fun j u hj => by
    rw [addr_at, hWc, Nat.zero_add]
    exact box_at hvx1 (by simpa using hj))
   (fun j hj => by rw [hWc]; exact hsp1 _ (by omega)) (fun j _ => by rw [hWf]; exact hfz1 _) hx1
 have hres : ∀ (W : World), W.heap = W1.heap → W.os = w.os → W.tape = w.tape → W.output = w.output → Insd base (.slice (some ⟨g, 0, none⟩) css.length cap) css i x w (.returned (.slice (some ⟨g, 0, none⟩) (css.length + 1) cap)) (W.setCells g (i * 6) x) := fun W hWh ho ht hot => by
  have hWc : ∀ y, W.cell? y = W1.cell? y := fun y => by unfold World.cell?; rw [hWh]
  obtain ⟨cur1, hr1, hs1⟩ := setCells_row g 54 (0, 0) (css.drop i).flatten ((i + 1) * 6) w.drew cur hcur
  rw [← hW1] at hr1
  obtain ⟨cur2, hr2, hs2⟩ := setCells_row g 54 (0, 0) x (i * 6) W cur1 (by rw [hWh]; exact hr1)
  have hG := setCells_grown g x (i * 6) W
  have hG1 := setCells_grown g (css.drop i).flatten ((i + 1) * 6) w.drew
  rw [← hW1] at hG1
  refine ⟨_, rfl, ⟨hG.os.trans ho, hG.tape.trans ht, hG.output.trans hot, Nat.le_trans (by rw [hWh]; exact hG1.size) hG.size, fun k hk hne => ?_⟩, ?_⟩
  ·exact (hG.block k (by rw [hWh]; exact Nat.lt_of_lt_of_le hk hG1.size) hne).trans ((show W.heap[k]? = W1.heap[k]? from by rw [hWh]).trans (hG1.block k hk hne))
  ·refine own_of_cells hbg hr2 (by omega) (by unfold maxLen; omega) (by rw [hs2, hs1]; exact hcs) (by rw [insA_flat]; simp only [List.length_append, htl, hdl, hx6]; omega) ?_
   rw [insA_flat]
   have hin : ∀ j, j < x.length → (W.cell? ⟨g, i * 6 + j, none⟩).isSome = true := fun j hj => by rw [hWc]; exact hsp1 _ (by omega)
   refine ins_cells htl hx6 (fun j u hj => ?_) (fun j u hj => ?_) (fun j u hj => ?_)
   ·have hj2 : j < i * 6 := by rw [← htl]; exact (List.getElem?_eq_some_iff.1 hj).1
    rw [World.cell?_setCells_out g x (i * 6) W ⟨g, j, none⟩ (fun _ _ => .inl hj2), hWc, hW1, World.cell?_setCells_out g _ _ _ ⟨g, j, none⟩ (fun _ _ => .inl (by show j < (i + 1) * 6; omega))]
    show w.cell? _ = _
    rw [hown.cellAt j (by omega)]
    rw [← flat_take 6 css h6, List.getElem?_take, if_pos hj2] at hj
    exact hj
   ·have hj2 := (List.getElem?_eq_some_iff.1 hj)
    rw [World.cell?_setCells_in g x (i * 6) W hin j hj2.1]
    rw [← hj2.2]
   ·have hj2 := (List.getElem?_eq_some_iff.1 hj)
    rw [World.cell?_setCells_out g x (i * 6) W ⟨g, i * 6 + 6 + j, none⟩ (fun _ _ => .inr (by show i * 6 + x.length ≤ i * 6 + 6 + j; omega)), hWc, hW1, show i * 6 + 6 + j = (i + 1) * 6 + j by omega,
     World.cell?_setCells_in g _ ((i + 1) * 6) w.drew (fun t ht => hsp _ (by rw [hdl] at ht; omega)) j hj2.1, ← hj2.2]
 rw [← hW1] at hcp1
 have hW1d : W1.heap.size = W1.heap.size := rfl
 have hW1f := hid (show W1.os = w.os ∧ W1.tape = w.tape ∧ W1.output = w.output from by rw [hW1]; have := setCells_grown g (css.drop i).flatten ((i + 1) * 6) w.drew; exact ⟨this.os, this.tape, this.output⟩)
 obtain ⟨n, hn⟩ : ∃ n, n = css.length := ⟨_, rfl⟩
 rw [← hn] at hi hroom hcp1 hcp2 hres hl hnc ⊢
 obtain ⟨I, hI⟩ : ∃ I, I = Insd base (.slice (some ⟨g, 0, none⟩) n cap) css i x w := ⟨_, rfl⟩
 rw [← hI] at hres ⊢
 replace hres := hid hres
 have e1 : ¬ ((i : Int) = (n : Int)) := by omega
 have e2 : (i : Int) ≤ (n : Int) := by omega
 have e3 : ¬ ((cap : Int) < (n : Int) + 1) := by omega
 have e4 : (n : Int) + 1 ≤ (cap : Int) := by omega
 have e5 : (i : Int) + 1 ≤ (n : Int) + 1 := by omega
 have e6 : (0 : Int) ≤ (i : Int) + 1 := by omega
 have e7 : ¬ cap = i + 1 := by omega
 have e8 : (i : Int) ≤ (n : Int) + 1 := by omega
 have e9 : ¬ cap = i := by omega
 have e10 : (0 : Int) ≤ (n : Int) + 1 := by omega
 have w1 : IntKind.i64.wrap ((n : Int) + 1) = (n : Int) + 1 := by rw [IntWalk.i64_in _ (by omega)]
 have w2 : IntKind.i64.wrap ((i : Int) + 1) = (i : Int) + 1 := by rw [IntWalk.i64_in _ (by omega)]
 clear hI hn hown h6 h1 hx1 hvx hcur hcs hfl hsz hdl htl hd1 hsp hfz hsp1 hfz1 hvx1 hW1d hbg
 go_enter Tryz.func69, Tryz.ntmps69
 go_upto_region 15 with (simp only [hov])
 refine wp_region_T (fun _ => True) 9 (by kernel_rfl) ?_
 have hT0 : True := trivial
 ((refine wpAnyT_take (i := 0) (v := ?_) rfl (by kernel_rfl) (by kernel_rfl) (by kernel_rfl) (by kernel_rfl) (by exact fun _ _ _ h => h) (Or.inl ⟨by kernel_rfl, ?_⟩) hT0 ?_; rotate_left 1; focus (intro w hSw; (try dsimp only at hSw); go_simp; try with_reducible rfl); (try simp only [List.getElem_toArray, List.getElem_cons_zero, List.getElem_cons_succ, Act.put, List.setIfInBounds_toArray, List.set_cons_zero, List.set_cons_succ])); (refine wpAnyT_take (i := 1) (v := ?_) rfl (by kernel_rfl) (by kernel_rfl) (by kernel_rfl) (by kernel_rfl) (by exact fun _ _ _ h => h) (Or.inl ⟨by kernel_rfl, ?_⟩) hT0 ?_; rotate_left 1; focus (intro w hSw; (try dsimp only at hSw); go_simp; try with_reducible rfl); (try simp only [List.getElem_toArray, List.getElem_cons_zero, List.getElem_cons_succ, Act.put, List.setIfInBounds_toArray, List.set_cons_zero, List.set_cons_succ])); (refine wpAnyT_take (i := 2) (v := ?_) rfl (by kernel_rfl) (by kernel_rfl) (by kernel_rfl) (by kernel_rfl) (by exact fun _ _ _ h => h) (Or.inl ⟨by kernel_rfl, ?_⟩) hT0 ?_; rotate_left 1; focus (intro w hSw; (try dsimp only at hSw); go_simp; try with_reducible rfl); (try simp only [List.getElem_toArray, List.getElem_cons_zero, List.getElem_cons_succ, Act.put, List.setIfInBounds_toArray, List.set_cons_zero, List.set_cons_succ])); (refine wpAnyT_take (i := 3) (v := ?_) rfl (by kernel_rfl) (by kernel_rfl) (by kernel_rfl) (by kernel_rfl) (by exact fun _ _ _ h => h) (Or.inl ⟨by kernel_rfl, ?_⟩) hT0 ?_; rotate_left 1; focus (intro w hSw; (try dsimp only at hSw); go_simp; try with_reducible rfl); (try simp only [List.getElem_toArray, List.getElem_cons_zero, List.getElem_cons_succ, Act.put, List.setIfInBounds_toArray, List.set_cons_zero, List.set_cons_succ])); (refine wpAnyT_take (i := 4) (v := ?_) rfl (by kernel_rfl) (by kernel_rfl) (by kernel_rfl) (by kernel_rfl) (by exact fun _ _ _ h => h) (Or.inl ⟨by kernel_rfl, ?_⟩) hT0 ?_; rotate_left 1; focus (intro w hSw; (try dsimp only at hSw); go_simp; try with_reducible rfl); (try simp only [List.getElem_toArray, List.getElem_cons_zero, List.getElem_cons_succ, Act.put, List.setIfInBounds_toArray, List.set_cons_zero, List.set_cons_succ])); (refine wpAnyT_take (i := 5) (v := ?_) rfl (by kernel_rfl) (by kernel_rfl) (by kernel_rfl) (by kernel_rfl) (by exact fun _ _ _ h => h) (Or.inl ⟨by kernel_rfl, ?_⟩) hT0 ?_; rotate_left 1; focus (intro w hSw; (try dsimp only at hSw); go_simp; try with_reducible rfl); (try simp only [List.getElem_toArray, List.getElem_cons_zero, List.getElem_cons_succ, Act.put, List.setIfInBounds_toArray, List.set_cons_zero, List.set_cons_succ])); (refine wpAnyT_take (i := 6) (v := ?_) rfl (by kernel_rfl) (by kernel_rfl) (by kernel_rfl) (by kernel_rfl) (by exact fun _ _ _ h => h) (Or.inl ⟨by kernel_rfl, ?_⟩) hT0 ?_; rotate_left 1; focus (intro w hSw; (try dsimp only at hSw); go_simp; try with_reducible rfl); (try simp only [List.getElem_toArray, List.getElem_cons_zero, List.getElem_cons_succ, Act.put, List.setIfInBounds_toArray, List.set_cons_zero, List.set_cons_succ])); (refine wpAnyT_take (i := 7) (v := ?_) rfl (by kernel_rfl) (by kernel_rfl) (by kernel_rfl) (by kernel_rfl) (by exact fun _ _ _ h => h) (Or.inl ⟨by kernel_rfl, ?_⟩) hT0 ?_; rotate_left 1; focus (intro w hSw; (try dsimp only at hSw); go_simp; try with_reducible rfl); (try simp only [List.getElem_toArray, List.getElem_cons_zero, List.getElem_cons_succ, Act.put, List.setIfInBounds_toArray, List.set_cons_zero, List.set_cons_succ])))
 refine wpAnyT_one (i := 8) (by kernel_rfl) rfl (fun K hK => ?_)
 refine step_copy_run rfl _ _ 23 23 rfl _ _ (by simp [Act.eval, Act.put]) (by simp [Act.eval, Act.put]) (hcp1 _ (cap - (i + 1)) (cap - i)) ?_
 (refine hK.out _ _ (fun _ => trivial) (fun _ => ?_); clear hK K; (try simp only [Act.put, List.setIfInBounds_toArray]))
 refine wpAnyT_done (by kernel_rfl) ?_ _
 go_wp2_with (at_builtin; refine wpList_copy_run _ rfl _ _ 23 23 rfl _ _ rfl rfl (hcp2 W1 (fun _ => rfl) (fun _ => rfl) _ (cap - i)) ?_)
 rw [← hW1]
 exact hres.out W1 rfl hW1f.out.1 hW1f.out.2.1 hW1f.out.2.2
set_option maxRecDepth 100000 in
set_option maxHeartbeats 8000000 in
theorem insGrow_calls {w : World} {base g cap vb : Nat} {css : List (List Value)} {x : List Value} (hown : w.ownsRow base 54 6 (.slice (some ⟨g, 0, none⟩) css.length cap) css.length css.flatten) (h6 : ∀ cs ∈ css, cs.length = 6) (h1 : ∀ cs ∈ css, ∀ u ∈ cs, u.oneCell' = true) (hl : css.length ≤ 1000000000000) (hbase : base ≤ w.heap.size) (hx6 : x.length = 6) (hx1 : ∀ u ∈ x, u.oneCell' = true) (hvx : w.heap[vb]? = some (.cells x.toArray 54 (0, 0))) {i : Nat} (hi : i < css.length) (hroom : cap < css.length + 1) :
  Calls Tryz.prog 69 #[.slice (some ⟨g, 0, none⟩) css.length cap, .int .i64 i, .slice (some ⟨vb, 0, none⟩) 1 1] w (Insd base (.slice (some ⟨g, 0, none⟩) css.length cap) css i x w) := by
 obtain ⟨hnc, hcm, hbg, _, cur, hcur, hcs⟩ := own_size hown
 have hfl := flat_len 6 css h6
 obtain ⟨i0, hi0, hz0, hzs, hzb⟩ := info_parts info_fldc
 have hsz : (Tryz.prog.info? 54).map (·.size) = some 6 := by rw [hi0]; simp [hzs]
 have hgw : g < w.heap.size := lt_of_block hcur
 have hvw : vb < w.heap.size := lt_of_block hvx
 have hdl : (css.drop i).flatten.length = (css.length - i) * 6 := by rw [flat_len 6 _ (fun c hc => h6 c (List.mem_of_mem_drop hc)), List.length_drop]
 have htl : (css.take i).flatten.length = i * 6 := by rw [flat_len 6 _ (fun c hc => h6 c (List.mem_of_mem_take hc)), List.length_take]; omega
 have hd1 : ∀ u ∈ (css.drop i).flatten, u.oneCell' = true := fun u hu => by
  obtain ⟨cs, hc, hu⟩ := List.mem_flatten.1 hu
  exact h1 cs (List.mem_of_mem_drop hc) u hu
 have hold : (Builtin.firstCells i0.size i (.slice (some ⟨g, 0, none⟩) i cap)).run Tryz.prog w.drew = .ok (css.take i).flatten.toArray w.drew := by
  rw [hzs]
  exact run_firstCells_some w.drew 6 i ⟨g, 0, none⟩ i cap _ htl (fun j v hj => by
   have hj2 : j < i * 6 := by rw [← htl]; exact (List.getElem?_eq_some_iff.1 hj).1
   rw [addr_at, Nat.zero_add]
   show w.cell? _ = _
   rw [hown.cellAt j (by omega)]
   rw [← flat_take 6 css h6, List.getElem?_take, if_pos hj2] at hj
   exact hj)
 obtain ⟨k, hk⟩ : ∃ k, k = css.length + 1 - i := ⟨_, rfl⟩
 have hkk : (css.length : Int) + 1 - (i : Int) = (k : Int) := by omega
 have hik : i + k = css.length + 1 := by omega
 obtain ⟨G, hG⟩ : ∃ G, G = grownCap w (css.length + 1) cap 54 := ⟨_, rfl⟩
 obtain ⟨ROW, hROW⟩ : ∃ ROW : Array Value, ROW = (css.take i).flatten.toArray ++ Builtin.zeroCells (Value.agg #[.string ByteArray.empty, .int .i64 0, .int .i64 0, .string ByteArray.empty, .slice none 0 0, .slice none 0 0]).cells k ++ Builtin.zeroCells (Value.agg #[.string ByteArray.empty, .int .i64 0, .int .i64 0, .string ByteArray.empty, .slice none 0 0, .slice none 0 0]).cells (G - (css.length + 1)) := ⟨_, rfl⟩
 have hGn : css.length + 1 ≤ G := by rw [hG]; exact grownCap_ge w _ _ _
 have hG63 : G ≤ 9223372036854775807 := by
  have := grownCap_le_maxLen w (css.length + 1) cap 54 (by unfold maxLen; omega)
  rw [← hG] at this
  unfold maxLen at this
  omega
 have hzc : ∀ m, (Builtin.zeroCells (Value.agg #[.string ByteArray.empty, .int .i64 0, .int .i64 0, .string ByteArray.empty, .slice none 0 0, .slice none 0 0]).cells m).size = m * 6 := fun m => by
  unfold Builtin.zeroCells
  rw [Array.size_map, Array.size_range]
  rfl
 have hRs : ROW.size = G * 6 := by
  rw [hROW]
  simp only [Array.size_append, hzc, List.size_toArray, htl]
  omega
 have hrz : ∀ ty, (Builtin.append_ #[23, 3] ty #[.slice (some ⟨g, 0, none⟩) i cap, .int .i64 (k : Int)]).run Tryz.prog w =
   .ok (.slice (some ⟨w.heap.size, 0, none⟩) (css.length + 1) G) (w.drew.alloc (.cells ROW 54)) := fun ty => by
  have h := Lib.run_append_grow_zeros w 23 3 ty 54 i0 _ .i64 .i64 Tryz.underlying23 Tryz.underlying3 hi0 hz0 (some ⟨g, 0, none⟩) i cap (css.take i).flatten hold k (by omega) (by rw [hzs]; omega) (by omega) (by omega) (by rw [hzb]; omega) (by rw [hzb, hik]; exact growslice_fits hroom (by omega))
  rw [hik] at h
  rw [hROW, hG]
  exact h
 obtain ⟨W1, hW1⟩ : ∃ W1, W1 = w.drew.alloc (.cells ROW 54) := ⟨_, rfl⟩
 rw [← hW1] at hrz
 have hN : ∀ o, o < G * 6 → (W1.cell? ⟨w.heap.size, o, none⟩).isSome = true := fun o ho => by
  rw [hW1, World.cell?_alloc_at (w := w.drew) ROW _ w.heap.size o rfl, Array.getElem?_eq_getElem (by omega)]; rfl
 have hNf : ∀ o, W1.frozen? ⟨w.heap.size, o, none⟩ = false := fun o => by rw [hW1]; exact World.frozen?_alloc_at (w := w.drew) ROW _ w.heap.size o rfl
 have hOb : ∀ o v, w.cell? ⟨g, o, none⟩ = some v → W1.cell? ⟨g, o, none⟩ = some v := fun o v h => by rw [hW1, World.cell?_alloc_past (w := w.drew) _ g o hgw]; exact h
 have hOv : ∀ o v, w.cell? ⟨vb, o, none⟩ = some v → W1.cell? ⟨vb, o, none⟩ = some v := fun o v h => by rw [hW1, World.cell?_alloc_past (w := w.drew) _ vb o hvw]; exact h
 have hcpA : ∀ (W : World), (∀ y, W.cell? y = W1.cell? y) → (∀ y, W.frozen? y = W1.frozen? y) → ∀ ty dc, (Builtin.copy_ #[23, 23] ty #[.slice (some ⟨w.heap.size, i * 6, none⟩) (css.length + 1 - i) dc, .slice (some ⟨vb, 0, none⟩) 1 1]).run Tryz.prog W = .ok (goInt (Nat.min 1 (css.length + 1 - i))) (W.setCells w.heap.size (i * 6) x) := fun W hWc hWf ty dc =>
  run_copy_multi W _ _ ty 54 6 w.heap.size (i * 6) _ dc ⟨vb, 0, none⟩ 1 1 x Tryz.underlying23 hsz (by simp only [Nat.min_def]; split <;> omega)
   (fun j u hj => by
    rw [addr_at, hWc, Nat.zero_add]
    exact hOv _ _ (box_at hvx (by simpa using hj)))
   (fun j hj => by rw [hWc]; exact hN _ (by omega)) (fun j _ => by rw [hWf]; exact hNf _) hx1
 have hbN : g ≠ w.heap.size := by omega
 obtain ⟨W2, hW2⟩ : ∃ W2, W2 = W1.setCells w.heap.size (i * 6) x := ⟨_, rfl⟩
 obtain ⟨cur2, hr2, hs2⟩ := setCells_row w.heap.size 54 (0, 0) x (i * 6) W1 ROW (by rw [hW1]; exact heap_alloc_new w.drew _)
 rw [← hW2] at hr2
 have hG2 := setCells_grown w.heap.size x (i * 6) W1
 rw [← hW2] at hG2
 have hcpB : ∀ (W : World), (∀ y, W.cell? y = W2.cell? y) → (∀ y, W.frozen? y = W2.frozen? y) → ∀ ty dc sc, (Builtin.copy_ #[23, 23] ty #[.slice (some ⟨w.heap.size, (i + 1) * 6, none⟩) (css.length + 1 - (i + 1)) dc, .slice (some ⟨g, i * 6, none⟩) (css.length - i) sc]).run Tryz.prog W = .ok (goInt (Nat.min (css.length - i) (css.length + 1 - (i + 1)))) (W.setCells w.heap.size ((i + 1) * 6) (css.drop i).flatten) := fun W hWc hWf ty dc sc =>
  run_copy_multi W _ _ ty 54 6 w.heap.size ((i + 1) * 6) _ dc ⟨g, i * 6, none⟩ _ sc (css.drop i).flatten Tryz.underlying23 hsz (by rw [hdl]; simp only [Nat.min_def]; split <;> omega)
   (fun j u hj => by
    rw [addr_at, hWc, hW2, World.cell?_setCells_out _ _ _ _ ⟨g, i * 6 + j, none⟩ (fun h _ => absurd h hbN)]
    refine hOb _ _ ?_
    rw [hown.cellAt (i * 6 + j) (by have := (List.getElem?_eq_some_iff.1 hj).1; rw [hdl] at this; omega)]
    rw [← flat_drop 6 css h6, List.getElem?_drop] at hj
    exact hj)
   (fun j hj => by rw [hWc, cell_of_row _ _ _ cur2 _ (0, 0) hr2, Array.getElem?_eq_getElem (by rw [hdl] at hj; omega)]; rfl)
   (fun j _ => by rw [hWf, hW2, World.frozen?_setCells]; exact hNf _) hd1
 have hW1g : w.grownBy W1 none := by rw [hW1]; have h := World.grownBy_alloc w.drew (.cells ROW 54) none; exact ⟨h.os, h.tape, h.output, h.size, h.block⟩
 have hres : ∀ (W : World), W.heap = W2.heap → W.os = w.os → W.tape = w.tape → W.output = w.output → Insd base (.slice (some ⟨g, 0, none⟩) css.length cap) css i x w (.returned (.slice (some ⟨w.heap.size, 0, none⟩) (css.length + 1) G)) (W.setCells w.heap.size ((i + 1) * 6) (css.drop i).flatten) := fun W hWh ho ht hot => by
  have hWc : ∀ y, W.cell? y = W2.cell? y := fun y => by unfold World.cell?; rw [hWh]
  obtain ⟨cur3, hr3, hs3⟩ := setCells_row w.heap.size 54 (0, 0) (css.drop i).flatten ((i + 1) * 6) W cur2 (by rw [hWh]; exact hr2)
  have hG3 := setCells_grown w.heap.size (css.drop i).flatten ((i + 1) * 6) W
  refine ⟨_, rfl, ⟨hG3.os.trans ho, hG3.tape.trans ht, hG3.output.trans hot, Nat.le_trans hW1g.size (Nat.le_trans hG2.size (by rw [← hWh]; exact hG3.size)), fun k' hk' hne => ?_⟩, ?_⟩
  ·have hk1 : some k' ≠ some w.heap.size := fun e => absurd (Option.some.inj e) (Nat.ne_of_lt hk')
   exact (hG3.block k' (by rw [hWh]; exact Nat.lt_of_lt_of_le hk' (Nat.le_trans hW1g.size hG2.size)) hk1).trans ((show W.heap[k']? = W2.heap[k']? from by rw [hWh]).trans ((hG2.block k' (Nat.lt_of_lt_of_le hk' hW1g.size) hk1).trans (hW1g.block k' hk' (by simp))))
  ·refine own_of_cells hbase hr3 hGn (by unfold maxLen; omega) (by rw [hs3, hs2]; exact hRs) (by rw [insA_flat]; simp only [List.length_append, htl, hdl, hx6]; omega) ?_
   rw [insA_flat]
   have hin1 : ∀ j, j < x.length → (W1.cell? ⟨w.heap.size, i * 6 + j, none⟩).isSome = true := fun j hj => hN _ (by omega)
   have hin2 : ∀ j, j < (css.drop i).flatten.length → (W.cell? ⟨w.heap.size, (i + 1) * 6 + j, none⟩).isSome = true := fun j hj => by
    rw [hWc, cell_of_row _ _ _ cur2 _ (0, 0) hr2, Array.getElem?_eq_getElem (by rw [hdl] at hj; omega)]; rfl
   refine ins_cells htl hx6 (fun j u hj => ?_) (fun j u hj => ?_) (fun j u hj => ?_)
   ·have hj2 : j < i * 6 := by rw [← htl]; exact (List.getElem?_eq_some_iff.1 hj).1
    rw [World.cell?_setCells_out _ _ _ W ⟨w.heap.size, j, none⟩ (fun _ _ => .inl (by show j < (i + 1) * 6; omega)), hWc, hW2, World.cell?_setCells_out _ _ _ W1 ⟨w.heap.size, j, none⟩ (fun _ _ => .inl hj2),
     hW1, World.cell?_alloc_at (w := w.drew) ROW _ w.heap.size j rfl, hROW]
    rw [Array.getElem?_append_left (by simp only [Array.size_append, List.size_toArray, htl]; omega), Array.getElem?_append_left (by simp only [List.size_toArray, htl]; omega)]
    simpa using hj
   ·have hj2 := (List.getElem?_eq_some_iff.1 hj)
    have hj3 : j < 6 := by rw [← hx6]; exact hj2.1
    rw [World.cell?_setCells_out _ _ _ W ⟨w.heap.size, i * 6 + j, none⟩ (fun _ _ => .inl (by show i * 6 + j < (i + 1) * 6; omega)), hWc, hW2, World.cell?_setCells_in _ x (i * 6) W1 hin1 j hj2.1, ← hj2.2]
   ·have hj2 := (List.getElem?_eq_some_iff.1 hj)
    rw [show i * 6 + 6 + j = (i + 1) * 6 + j by omega, World.cell?_setCells_in _ _ ((i + 1) * 6) W hin2 j hj2.1, ← hj2.2]
 have hW2f := hid (show W2.os = w.os ∧ W2.tape = w.tape ∧ W2.output = w.output from ⟨hG2.os.trans hW1g.os, hG2.tape.trans hW1g.tape, hG2.output.trans hW1g.output⟩)
 obtain ⟨n, hn⟩ : ∃ n, n = css.length := ⟨_, rfl⟩
 rw [← hn] at hi hroom hrz hcpA hcpB hres hl hnc hGn hkk ⊢
 obtain ⟨I, hI⟩ : ∃ I, I = Insd base (.slice (some ⟨g, 0, none⟩) n cap) css i x w := ⟨_, rfl⟩
 rw [← hI] at hres ⊢
 replace hres := hid hres
 have e1 : ¬ ((i : Int) = (n : Int)) := by omega
 have e2 : (i : Int) ≤ (n : Int) := by omega
 have e3 : (cap : Int) < (n : Int) + 1 := by omega
 have e4 : (i : Int) ≤ (cap : Int) := by omega
 have e5 : (i : Int) + 1 ≤ (n : Int) + 1 := by omega
 have e6 : (0 : Int) ≤ (i : Int) + 1 := by omega
 have e7 : ¬ G = i + 1 := by omega
 have e8 : (i : Int) ≤ (n : Int) + 1 := by omega
 have e9 : ¬ cap = i := by omega
 have e10 : ¬ G = i := by omega
 have w1 : IntKind.i64.wrap ((n : Int) + 1) = (n : Int) + 1 := by rw [IntWalk.i64_in _ (by omega)]
 have w2 : IntKind.i64.wrap ((i : Int) + 1) = (i : Int) + 1 := by rw [IntWalk.i64_in _ (by omega)]
 have w3 : IntKind.i64.wrap ((n : Int) + 1 - (i : Int)) = (k : Int) := by rw [hkk, IntWalk.i64_in _ (by omega)]
 clear hW1
 replace hW2 := hid hW2
 clear hI hn hown h6 h1 hx1 hvx hcur hcs hfl hsz hdl htl hd1 hold hN hNf hOb hOv hr2 hs2 hG2 hW1g hzc hRs hROW hG hzs hzb hkk hk hik hbg hbN hgw hvw
 go_enter Tryz.func69, Tryz.ntmps69
 go_upto_region 11 with (first
  | (at_builtin; refine Lib.wpList_append_run _ rfl _ _ _ _ rfl _ _ rfl rfl _ _ (hrz _) ?_)
  | (at_builtin; refine wpList_copy_run _ rfl _ _ 23 23 rfl _ _ rfl rfl (hcpA W1 (fun _ => rfl) (fun _ => rfl) _ (G - i)) ?_))
 refine wp_region_T (fun _ => True) 9 (by kernel_rfl) ?_
 have hT0 : True := trivial
 ((refine wpAnyT_take (i := 0) (v := ?_) rfl (by kernel_rfl) (by kernel_rfl) (by kernel_rfl) (by kernel_rfl) (by exact fun _ _ _ h => h) (Or.inl ⟨by kernel_rfl, ?_⟩) hT0 ?_; rotate_left 1; focus (intro w hSw; (try dsimp only at hSw); go_simp; try with_reducible rfl); (try simp only [List.getElem_toArray, List.getElem_cons_zero, List.getElem_cons_succ, Act.put, List.setIfInBounds_toArray, List.set_cons_zero, List.set_cons_succ])); (refine wpAnyT_take (i := 1) (v := ?_) rfl (by kernel_rfl) (by kernel_rfl) (by kernel_rfl) (by kernel_rfl) (by exact fun _ _ _ h => h) (Or.inl ⟨by kernel_rfl, ?_⟩) hT0 ?_; rotate_left 1; focus (intro w hSw; (try dsimp only at hSw); go_simp; try with_reducible rfl); (try simp only [List.getElem_toArray, List.getElem_cons_zero, List.getElem_cons_succ, Act.put, List.setIfInBounds_toArray, List.set_cons_zero, List.set_cons_succ])); (refine wpAnyT_take (i := 2) (v := ?_) rfl (by kernel_rfl) (by kernel_rfl) (by kernel_rfl) (by kernel_rfl) (by exact fun _ _ _ h => h) (Or.inl ⟨by kernel_rfl, ?_⟩) hT0 ?_; rotate_left 1; focus (intro w hSw; (try dsimp only at hSw); go_simp; try with_reducible rfl); (try simp only [List.getElem_toArray, List.getElem_cons_zero, List.getElem_cons_succ, Act.put, List.setIfInBounds_toArray, List.set_cons_zero, List.set_cons_succ])); (refine wpAnyT_take (i := 3) (v := ?_) rfl (by kernel_rfl) (by kernel_rfl) (by kernel_rfl) (by kernel_rfl) (by exact fun _ _ _ h => h) (Or.inl ⟨by kernel_rfl, ?_⟩) hT0 ?_; rotate_left 1; focus (intro w hSw; (try dsimp only at hSw); go_simp; try with_reducible rfl); (try simp only [List.getElem_toArray, List.getElem_cons_zero, List.getElem_cons_succ, Act.put, List.setIfInBounds_toArray, List.set_cons_zero, List.set_cons_succ])); (refine wpAnyT_take (i := 4) (v := ?_) rfl (by kernel_rfl) (by kernel_rfl) (by kernel_rfl) (by kernel_rfl) (by exact fun _ _ _ h => h) (Or.inl ⟨by kernel_rfl, ?_⟩) hT0 ?_; rotate_left 1; focus (intro w hSw; (try dsimp only at hSw); go_simp; try with_reducible rfl); (try simp only [List.getElem_toArray, List.getElem_cons_zero, List.getElem_cons_succ, Act.put, List.setIfInBounds_toArray, List.set_cons_zero, List.set_cons_succ])); (refine wpAnyT_take (i := 5) (v := ?_) rfl (by kernel_rfl) (by kernel_rfl) (by kernel_rfl) (by kernel_rfl) (by exact fun _ _ _ h => h) (Or.inl ⟨by kernel_rfl, ?_⟩) hT0 ?_; rotate_left 1; focus (intro w hSw; (try dsimp only at hSw); go_simp; try with_reducible rfl); (try simp only [List.getElem_toArray, List.getElem_cons_zero, List.getElem_cons_succ, Act.put, List.setIfInBounds_toArray, List.set_cons_zero, List.set_cons_succ])); (refine wpAnyT_take (i := 6) (v := ?_) rfl (by kernel_rfl) (by kernel_rfl) (by kernel_rfl) (by kernel_rfl) (by exact fun _ _ _ h => h) (Or.inl ⟨by kernel_rfl, ?_⟩) hT0 ?_; rotate_left 1; focus (intro w hSw; (try dsimp only at hSw); go_simp; try with_reducible rfl); (try simp only [List.getElem_toArray, List.getElem_cons_zero, List.getElem_cons_succ, Act.put, List.setIfInBounds_toArray, List.set_cons_zero, List.set_cons_succ])); (refine wpAnyT_take (i := 7) (v := ?_) rfl (by kernel_rfl) (by kernel_rfl) (by kernel_rfl) (by kernel_rfl) (by exact fun _ _ _ h => h) (Or.inl ⟨by kernel_rfl, ?_⟩) hT0 ?_; rotate_left 1; focus (intro w hSw; (try dsimp only at hSw); go_simp; try with_reducible rfl); (try simp only [List.getElem_toArray, List.getElem_cons_zero, List.getElem_cons_succ, Act.put, List.setIfInBounds_toArray, List.set_cons_zero, List.set_cons_succ])))
 refine wpAnyT_one (i := 8) (by kernel_rfl) rfl (fun K hK => ?_)
 refine step_copy_run rfl _ _ 23 23 rfl _ _ (by simp [Act.eval, Act.put]) (by simp [Act.eval, Act.put]) (hcpB _ (fun _ => by rw [hW2.out]; rfl) (fun _ => by rw [hW2.out]; rfl) _ (G - (i + 1)) (cap - i)) ?_
 (refine hK.out _ _ (fun _ => trivial) (fun _ => ?_); clear hK K; (try simp only [Act.put, List.setIfInBounds_toArray]))
 refine wpAnyT_done (by kernel_rfl) ?_ _
 go_wp2
 exact hres.out _ (by rw [hW2.out]; rfl) (by rw [← hW2.out]; exact hW2f.out.1) (by rw [← hW2.out]; exact hW2f.out.2.1) (by rw [← hW2.out]; exact hW2f.out.2.2)
theorem ins_calls {w : World} {base vb : Nat} {v : Value} {css : List (List Value)} {x : List Value} (hown : w.ownsRow base 54 6 v css.length css.flatten) (h6 : ∀ cs ∈ css, cs.length = 6) (h1 : ∀ cs ∈ css, ∀ u ∈ cs, u.oneCell' = true) (hl : css.length ≤ 1000000000000) (hbase : base ≤ w.heap.size) (hx6 : x.length = 6) (hx1 : ∀ u ∈ x, u.oneCell' = true) (hvx : w.heap[vb]? = some (.cells x.toArray 54 (0, 0))) (hvb : v.ownBlock ≠ some vb) {i : Nat} (hi : i ≤ css.length) :
  Calls Tryz.prog 69 #[v, .int .i64 i, .slice (some ⟨vb, 0, none⟩) 1 1] w (Insd base v css i x w) := by
 have hown' := hown
 obtain ⟨hfl, ⟨rfl, h0⟩ | ⟨g, cap, cur, rfl, hbg, hcur, hnc, hcm, hcs, htk⟩⟩ := hown
 ·obtain rfl := List.length_eq_zero_iff.1 h0
  obtain rfl : i = 0 := by simpa using hi
  exact insNil_calls hbase hx6 hx1 hvx
 ·have hne : vb ≠ g := fun e => hvb (by rw [e]; rfl)
  by_cases hi' : i = css.length
  ·subst hi'
   exact insEnd_calls hown' hl hbase hx6 hx1 hvx
  ·by_cases hr : css.length + 1 ≤ cap
   ·exact insRoom_calls hown' h6 h1 hl hx6 hx1 hvx hne (by omega) hr
   ·exact insGrow_calls hown' h6 h1 hl hbase hx6 hx1 hvx (by omega) (by omega)
end Go.Proofs.YthjihdpleclejaaGreatDoor
