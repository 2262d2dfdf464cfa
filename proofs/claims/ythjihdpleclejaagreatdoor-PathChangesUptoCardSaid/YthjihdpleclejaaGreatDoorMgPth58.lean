/-
  Walk: the reference's unset at a List's part. No condition.
  Walk: the reference's unset at whatever steps; its Unset. No condition.
-/
import Derived.Test.YthjihdpleclejaaGreatDoorMgPth57
import Derived.Test.YthjihdpleclejaaGreatDoorMgPth49
namespace Go.Proofs.YthjihdpleclejaaGreatDoor
open Go.RowKit Go.Proofs
theorem run_append_more {P : Program} (w : World) (base : Nat) (t ty e : TypeId) (i : TypeInfo) (z : Value) (size bytes : Nat) (ht : P.underlying t = some (.slice e)) (hi : P.info? e = some i) (hz : i.zero = some z)
  (hsize : i.size = size) (hby : i.bytes = bytes) (hzs : z.cells.size = size) (hsz : 0 < size)
  (v : Value) (n : Nat) (xs : List Value) (hown : w.ownsRow base e size v n xs)
  (ao : Option Addr) (m c : Nat) (news : List Value) (hl : news.length = m * size) (hnone : ao = none → m = 0) (hnews : ∀ ad, ao = some ad → ∀ j u, news[j]? = some u → w.cell? (ad.add j) = some u) (h1 : ∀ u ∈ news, u.oneCell' = true)
  (h63 : n + m ≤ maxLen) (hbytes : (n + m) * bytes ≤ 140737488355328) (hbase : base ≤ w.heap.size) :
  ∃ v' w', (Builtin.append_ #[t, t] ty #[v, .slice ao m c]).run P w = .ok v' w' ∧ w'.ownsRow base e size v' (n + m) (xs ++ news) ∧ Below base w w' := by
 cases ao with
 | none =>
  obtain rfl := hnone rfl
  obtain rfl : news = [] := List.eq_nil_of_length_eq_zero (by simpa using hl)
  refine ⟨v, w, ?_, by simpa using hown, Below.refl _ _⟩
  rcases hown.2 with ⟨rfl, rfl⟩ | ⟨g, cap, cur, rfl, _, _, hnc, _⟩
  ·simp [Builtin.append_, run_underlying ht, sizeOf, typeInfo, hi, Builtin.lenOf, Builtin.firstCells]
  ·simp [Builtin.append_, run_underlying ht, sizeOf, typeInfo, hi, Builtin.lenOf, Builtin.firstCells, hnc, storeCells]
 | some ad =>
  obtain ⟨v', w', h2, h3, h4, _⟩ := run_append_own w base t ty e i z size bytes ht hi hz hsize hby hzs hsz v n xs hown ad m c news hl (hnews ad rfl) h1 h63 hbytes hbase
  exact ⟨v', w', h2, h3, ⟨h4.os, h4.tape, h4.output, h4.size, fun k hk => h4.block k (by omega) (fun he => by have := (hown.lt k he.symm).1; omega)⟩⟩
theorem own_form {w : World} {B e sz n : Nat} {v : Value} {xs : List Value} (h : w.ownsRow B e sz v n xs) : ∃ a c, v = .slice a n c ∧ n ≤ c := by
 rcases h.2 with ⟨rfl, h0⟩ | ⟨g, cap, cur, rfl, _, _, hc, _⟩
 ·exact ⟨none, 0, by rw [h0], by omega⟩
 ·exact ⟨_, cap, rfl, hc⟩
theorem LieAt.take {w : World} {a : Option Addr} {sz : Nat} {css : List (List Value)} (h : LieAt w a sz css) (n : Nat) : LieAt w a sz (css.take n) := by
 obtain ⟨h1, h2, h3⟩ := h
 refine ⟨fun cs hc => h1 cs (List.mem_of_mem_take hc), fun cs hc => h2 cs (List.mem_of_mem_take hc), ?_⟩
 rcases h3 with rfl | ⟨b, off, h4, h5, h6⟩
 ·exact .inl (by simp)
 ·refine .inr ⟨b, off, h4, h5, fun i cs hi => h6 i cs ?_⟩
  rw [List.getElem?_take] at hi
  split at hi
  ·exact hi
  ·cases hi
theorem LieAt.drop {w : World} {b off sz : Nat} {css : List (List Value)} (h : LieAt w (some ⟨b, off, none⟩) sz css) (n : Nat) : LieAt w (some ⟨b, off + n * sz, none⟩) sz (css.drop n) := by
 obtain ⟨h1, h2, h3⟩ := h
 refine ⟨fun cs hc => h1 cs (List.mem_of_mem_drop hc), fun cs hc => h2 cs (List.mem_of_mem_drop hc), ?_⟩
 rcases h3 with rfl | ⟨b', off', h4, h5, h6⟩
 ·exact .inl (by simp)
 ·injection h4 with h4
  injection h4 with e1 e2
  subst e1 e2
  refine .inr ⟨b, off + n * sz, rfl, h5, fun i cs hi j v hv => ?_⟩
  rw [List.getElem?_drop] at hi
  have := h6 (n + i) cs hi j v hv
  rwa [show off + (n + i) * sz + j = off + n * sz + i * sz + j by rw [Nat.add_mul]; omega] at this
theorem flat_erase {α : Type} (css : List (List α)) (n : Nat) : (css.take n).flatten ++ (css.drop (n + 1)).flatten = (css.eraseIdx n).flatten := by
 rw [List.eraseIdx_eq_take_drop_succ, List.flatten_append]
def UdS (gy : Nat) (ly : Value) (A : Nat) (L : Value) (x : World) : Prop := x.cell? ⟨gy, 3, none⟩ = some ly ∧ x.cell? ⟨A, 3, none⟩ = some L
set_option maxRecDepth 100000 in
set_option maxHeartbeats 16000000 in
theorem runset_lastL (V : PVal) (s : ByteArray) (n : Nat) (hz : s.size ≤ 140737488355328) (hp : place s = some n) (hnl : n < V.l.length) (hm : V.mass ≤ 100000000000) {S : Nat → Prop} {w : World} {cs : List Value} {sv : Value} (hS : ∀ c, S c → c < w.heap.size) (hV : Rd w S V cs) (hss : StrsAt w (Now w) [s] sv) :
  Calls Tryz.prog 41 #[.agg cs.toArray, sv] w (UnR S (listV (V.l.eraseIdx n)) w) := by
 unfold UnR
 obtain ⟨i0, hi, hz0, hz1, hz2⟩ := info_parts info52
 have hlm := hid (show V.l.length ≤ 100000000000 from by have h1 := len_massL V.l; have h2 := mass_l V; omega)
 have hSw := hid hS
 obtain ⟨sa, sc, rfl, _⟩ := id hss
 obtain ⟨sb, so, rfl, hn1, hsc1, hsc2, hsb, hsc⟩ := hss.head
 have hss0 := hid hss
 replace hsb := hid hsb
 have hsc0 := hid hsc
 clear hss hn1 hsc
 simp only [List.length_cons, List.length_nil] at hss0 ⊢
 have hpl := hid (fun w => rplace_calls s w hz)
 unfold placeZ at hpl
 rw [hp] at hpl
 obtain ⟨k, n0, str, l, fn, fv⟩ := V
 simp only [PVal.l] at hnl hlm ⊢
 obtain ⟨la, lc, fa, fc, rfl, _, _, _, hlc1, hlc2, _, _, hLr, _⟩ := hV.inv
 obtain ⟨css, hcl, hlie, hln, hce⟩ := rdL_lie hS hLr
 obtain ⟨b, off, rfl⟩ : ∃ b off, la = some ⟨b, off, none⟩ := by
  rcases hlie.2.2 with h | ⟨b, off, h, _⟩
  ·rw [h] at hcl; simp at hcl; omega
  ·exact ⟨b, off, h⟩
 obtain ⟨ln, hle⟩ : ∃ m, m = l.length := ⟨_, rfl⟩
 rw [← hle] at hnl hlm hcl hlc1 hlc2 ⊢
 replace hle := hid hle
 replace hce := hid hce
 have hlie0 := hid hlie
 have hcll := hid hcl
 have hlc2 := hlc2.1
 have hmx := hid hlc2
 clear hV hp hS hm hLr hln hlie hcl hlc2
 obtain ⟨W0, hW0⟩ : ∃ W0, W0 = (w.alloc (.cells #[.int .i64 k, .int .i64 n0, .string str, .slice (some ⟨b, off, none⟩) ln lc, .slice fa fv.length fc] 25)).alloc (.cells #[.int .i64 0, .int .i64 0, .string ⟨#[]⟩, .slice none 0 0, .slice none 0 0] 25) := ⟨_, rfl⟩
 have D : Hid (Below w.heap.size w W0) := by show Below _ _ _; rw [hW0]; exact ((below_new _ _).step (below_new _ _))
 have r2 : Hid (W0.heap[w.heap.size]? = some (.cells #[.int .i64 k, .int .i64 n0, .string str, .slice (some ⟨b, off, none⟩) ln lc, .slice fa fv.length fc] 25 (0, 0))) := by show _ = _; rw [hW0]; exact (al_old (al_at rfl))
 have r4 : Hid (W0.heap[w.heap.size + 1]? = some (.cells #[.int .i64 0, .int .i64 0, .string ⟨#[]⟩, .slice none 0 0, .slice none 0 0] 25 (0, 0))) := by show _ = _; rw [hW0]; exact (al_at (by simp))
 have hW0s : Hid (w.heap.size + 1 < W0.heap.size) := lt_of_block r4.out
 go_enter Tryz.func41, Tryz.ntmps41
 go_upto_region 1 with fail
 rw [← hW0]
 clear hW0
 have s0 := (World.cell?_of_block (w := w) (D.out.block sb hsb.out)).trans hsc0.out
 go_wp2_with fail
 refine (hpl.out _).mono ?_
 rintro e w1 ⟨rfl, hw1⟩
 subst hw1
 clear hpl s0
 obtain ⟨w5, hw5⟩ : ∃ x, x = w1.alloc (.cells #[.int .i64 5, .int .i64 0, .string ⟨#[]⟩, .slice none 0 0, .slice none 0 0] 25) := ⟨_, rfl⟩
 have E5 : Hid (Below w1.heap.size w1 w5) := by show Below _ _ _; rw [hw5]; exact below_new _ _
 have ry : Hid (w5.heap[w1.heap.size]? = some (.cells #[.int .i64 5, .int .i64 0, .string ⟨#[]⟩, .slice none 0 0, .slice none 0 0] 25 (0, 0))) := by show _ = _; rw [hw5]; exact heap_alloc_new _ _
 have hz5 : Hid (w5.heap.size = w1.heap.size + 1) := by show _ = _; rw [hw5]; simp
 have D5 := hid (D.out.step E5.out)
 have q2 := hid ((E5.out.block _ (lt_of_block r2.out)).trans r2.out)
 have q4 := hid ((E5.out.block _ (lt_of_block r4.out)).trans r4.out)
 have h4w := hid (lt_of_block r4.out)
 clear r2 r4
 go_upto_region 10 with fail
 rw [← hw5]
 clear hw5
 have hnc : (n : Int) ≤ (lc : Int) := by omega
 have hn1 : (n : Int) ≤ (ln : Int) := by omega
 refine wp_region_T (UdS w1.heap.size (.slice none 0 0) w.heap.size (.slice (some ⟨b, off, none⟩) ln lc)) 8 (by kernel_rfl) ?_
 have hT0 : UdS w1.heap.size (.slice none 0 0) w.heap.size (.slice (some ⟨b, off, none⟩) ln lc) w5.drew := ⟨box_at ry.out rfl, box_at q2.out rfl⟩
 ((refine wpAnyT_take (i := 0) (v := ?_) rfl (by kernel_rfl) (by kernel_rfl) (by kernel_rfl) (by kernel_rfl) (by exact fun _ _ _ h => h) (Or.inl ⟨by kernel_rfl, ?_⟩) hT0 ?_; rotate_left 1; focus (intro w hSw; unfold UdS at hSw; (try dsimp only at hSw); go_simp; try with_reducible rfl); (try simp only [List.getElem_toArray, List.getElem_cons_zero, List.getElem_cons_succ, Act.put, List.setIfInBounds_toArray, List.set_cons_zero, List.set_cons_succ])); (refine wpAnyT_take (i := 1) (v := ?_) rfl (by kernel_rfl) (by kernel_rfl) (by kernel_rfl) (by kernel_rfl) (by exact fun _ _ _ h => h) (Or.inl ⟨by kernel_rfl, ?_⟩) hT0 ?_; rotate_left 1; focus (intro w hSw; unfold UdS at hSw; (try dsimp only at hSw); go_simp; try with_reducible rfl); (try simp only [List.getElem_toArray, List.getElem_cons_zero, List.getElem_cons_succ, Act.put, List.setIfInBounds_toArray, List.set_cons_zero, List.set_cons_succ])); (refine wpAnyT_take (i := 2) (v := ?_) rfl (by kernel_rfl) (by kernel_rfl) (by kernel_rfl) (by kernel_rfl) (by exact fun _ _ _ h => h) (Or.inl ⟨by kernel_rfl, ?_⟩) hT0 ?_; rotate_left 1; focus (intro w hSw; unfold UdS at hSw; (try dsimp only at hSw); go_simp; try with_reducible rfl); (try simp only [List.getElem_toArray, List.getElem_cons_zero, List.getElem_cons_succ, Act.put, List.setIfInBounds_toArray, List.set_cons_zero, List.set_cons_succ])); (refine wpAnyT_take (i := 3) (v := ?_) rfl (by kernel_rfl) (by kernel_rfl) (by kernel_rfl) (by kernel_rfl) (by exact fun _ _ _ h => h) (Or.inl ⟨by kernel_rfl, ?_⟩) hT0 ?_; rotate_left 1; focus (intro w hSw; unfold UdS at hSw; (try dsimp only at hSw); go_simp; try with_reducible rfl); (try simp only [List.getElem_toArray, List.getElem_cons_zero, List.getElem_cons_succ, Act.put, List.setIfInBounds_toArray, List.set_cons_zero, List.set_cons_succ])); (refine wpAnyT_take (i := 4) (v := ?_) rfl (by kernel_rfl) (by kernel_rfl) (by kernel_rfl) (by kernel_rfl) (by exact fun _ _ _ h => h) (Or.inl ⟨by kernel_rfl, ?_⟩) hT0 ?_; rotate_left 1; focus (intro w hSw; unfold UdS at hSw; (try dsimp only at hSw); go_simp; try with_reducible rfl); (try simp only [List.getElem_toArray, List.getElem_cons_zero, List.getElem_cons_succ, Act.put, List.setIfInBounds_toArray, List.set_cons_zero, List.set_cons_succ])); (refine wpAnyT_take (i := 5) (v := ?_) rfl (by kernel_rfl) (by kernel_rfl) (by kernel_rfl) (by kernel_rfl) (by exact fun _ _ _ h => h) (Or.inl ⟨by kernel_rfl, ?_⟩) hT0 ?_; rotate_left 1; focus (intro w hSw; unfold UdS at hSw; (try dsimp only at hSw); go_simp; try with_reducible rfl); (try simp only [List.getElem_toArray, List.getElem_cons_zero, List.getElem_cons_succ, Act.put, List.setIfInBounds_toArray, List.set_cons_zero, List.set_cons_succ])))
 refine wpAnyT_one (i := 6) (by kernel_rfl) rfl (fun K hK => ?_)
 have hlT := hid ((hlie0.out.later (D5.out.step (Below.refl w5.heap.size w5).drew)).take n)
 obtain ⟨v1, w6, hrun1, hown6, hb6⟩ := run_append_more (P := Tryz.prog) w5.drew w5.heap.size 22 22 25 i0 _ 5 80 Tryz.underlying22 hi hz0 hz1 hz2 rfl (by decide) (.slice none 0 0) 0 [] (World.ownsRow_nil _ _ _ _) (some ⟨b, off, none⟩) n lc (css.take n).flatten (by rw [flat_len 5 _ hlT.out.1, List.length_take, hcll.out, Nat.min_eq_left (by omega)]) (fun h => by cases h) hlT.out.flat hlT.out.one (by have := hlm.out; unfold maxLen; omega) (by have := hlm.out; omega) (Nat.le_refl _)
 rw [Nat.zero_add, List.nil_append] at hown6
 obtain ⟨a1, c1, rfl, hc1⟩ := own_form hown6
 refine step_append_run (v := .slice none 0 0) (u := .slice (some ⟨b, off, none⟩) n lc) rfl _ _ _ _ rfl (by go_simp) (by go_simp) hrun1 ?_
 have E6 := hid ((Below.refl w5.heap.size w5).drew.trans hb6)
 have hg5 : Hid (w1.heap.size < w5.heap.size) := lt_of_block ry.out
 have y6 := hid ((E6.out.block _ hg5.out).trans ry.out)
 have q26 := hid ((E6.out.block _ (lt_of_block q2.out)).trans q2.out)
 replace hown6 := hid hown6
 clear hrun1 hb6 hlT hT0 hnc hn1
 have hT1 : UdS w1.heap.size (.slice none 0 0) w.heap.size (.slice (some ⟨b, off, none⟩) ln lc) w6 := ⟨box_at y6.out rfl, box_at q26.out rfl⟩
 (refine hK.out _ _ (fun _ => hT1) (fun _ => ?_); clear hK K; (try simp only [Act.put, List.setIfInBounds_toArray]))
 refine wpAnyT_one (i := 7) (by kernel_rfl) rfl (fun K hK => ?_)
 go_simp
 (refine hK.out _ _ (fun _ => hT1) (fun _ => ?_); clear hK K; (try simp only [Act.put, List.setIfInBounds_toArray, List.set_cons_zero, List.set_cons_succ]))
 have c3 := box_at (j := 3) y6.out rfl
 have f0 := box_free y6.out
 refine wpAnyT_one (i := 8) (by kernel_rfl) rfl (fun K hK => ?_)
 go_simp
 (refine hK.out _ _ (fun h => absurd h (by decide)) (fun _ => ?_); clear hK K; (try simp only [Act.put, List.setIfInBounds_toArray]))
 clear c3 f0 hT1
 refine wpAnyT_done (by kernel_rfl) ?_ _
 obtain ⟨w7, hw7⟩ : ∃ x, x = w6.setCell ⟨w1.heap.size, 3, none⟩ (.slice a1 n c1) := ⟨_, rfl⟩
 have y7 : Hid (w7.heap[w1.heap.size]? = some (.cells #[.int .i64 5, .int .i64 0, .string ⟨#[]⟩, .slice a1 n c1, .slice none 0 0] 25 (0, 0))) := by show _ = _; rw [hw7]; exact row_setCell y6.out
 have hk7 : Hid (∀ b, b ≠ w1.heap.size → w7.heap[b]? = w6.heap[b]?) := fun b hb => by rw [hw7]; exact Below.heap_setCell _ _ _ _ hb
 have hz7 : Hid (w7.heap.size = w6.heap.size) := by show _ = _; rw [hw7]; simp [World.setCell]
 have E7 : Hid (Below w1.heap.size w1 w7) := by show Below _ _ _; rw [hw7]; exact (E5.out.step E6.out).setCell (p := ⟨w1.heap.size, 3, none⟩) (Nat.le_refl _) _
 rw [← hw7]
 clear hw7
 have hown7 := hid (own_keep' (w' := w7) hown6.out (fun k' hk' => hk7.out k' (by have := (hown6.out.lt k' hk').1; have := hz5.out; omega)))
 have q27 := hid ((hk7.out _ (by have := h4w.out; omega)).trans q26.out)
 have D7 := hid (D.out.step E7.out)
 have q47 := hid ((E7.out.block _ h4w.out).trans ((E5.out.block _ h4w.out).symm.trans q4.out))
 have hs57 : Hid (w5.heap.size ≤ w7.heap.size) := by show _ ≤ _; rw [hz7.out]; exact E6.out.size
 clear hown6 y6 q26 hk7 hz7 E6 q2 q4 D5 ry
 go_upto_region 11 with fail
 have e1 : IntKind.i64.wrap ((n : Int) + 1) = (n : Int) + 1 := by rw [IntWalk.i64_in _ (by have := hmx.out; omega)]
 have hn2 : (n : Int) + 1 ≤ (ln : Int) := by omega
 have hn3 : (ln : Int) ≤ (lc : Int) := by omega
 have hn0 : (0 : Int) ≤ (n : Int) + 1 := by omega
 refine wp_region_T (UdS w1.heap.size (.slice a1 n c1) w.heap.size (.slice (some ⟨b, off, none⟩) ln lc)) 9 (by kernel_rfl) ?_
 have hT0 : UdS w1.heap.size (.slice a1 n c1) w.heap.size (.slice (some ⟨b, off, none⟩) ln lc) w7.drew := ⟨box_at y7.out rfl, box_at q27.out rfl⟩
 obtain ⟨m2, hm2⟩ : ∃ m, m = (l.eraseIdx n).length := ⟨_, rfl⟩
 have hlen2 : n + (ln - (n + 1)) = m2 := by rw [hm2, List.length_eraseIdx, ← hle.out, if_pos hnl]; omega
 replace hlen2 := hid hlen2
 replace hm2 := hid hm2
 by_cases hcn : lc = n + 1
 ·((refine wpAnyT_take (i := 0) (v := ?_) rfl (by kernel_rfl) (by kernel_rfl) (by kernel_rfl) (by kernel_rfl) (by exact fun _ _ _ h => h) (Or.inl ⟨by kernel_rfl, ?_⟩) hT0 ?_; rotate_left 1; focus (intro w hSw; unfold UdS at hSw; (try dsimp only at hSw); go_simp; try with_reducible rfl); (try simp only [List.getElem_toArray, List.getElem_cons_zero, List.getElem_cons_succ, Act.put, List.setIfInBounds_toArray, List.set_cons_zero, List.set_cons_succ])); (refine wpAnyT_take (i := 1) (v := ?_) rfl (by kernel_rfl) (by kernel_rfl) (by kernel_rfl) (by kernel_rfl) (by exact fun _ _ _ h => h) (Or.inl ⟨by kernel_rfl, ?_⟩) hT0 ?_; rotate_left 1; focus (intro w hSw; unfold UdS at hSw; (try dsimp only at hSw); go_simp; try with_reducible rfl); (try simp only [List.getElem_toArray, List.getElem_cons_zero, List.getElem_cons_succ, Act.put, List.setIfInBounds_toArray, List.set_cons_zero, List.set_cons_succ])); (refine wpAnyT_take (i := 2) (v := ?_) rfl (by kernel_rfl) (by kernel_rfl) (by kernel_rfl) (by kernel_rfl) (by exact fun _ _ _ h => h) (Or.inl ⟨by kernel_rfl, ?_⟩) hT0 ?_; rotate_left 1; focus (intro w hSw; unfold UdS at hSw; (try dsimp only at hSw); go_simp; try with_reducible rfl); (try simp only [List.getElem_toArray, List.getElem_cons_zero, List.getElem_cons_succ, Act.put, List.setIfInBounds_toArray, List.set_cons_zero, List.set_cons_succ])); (refine wpAnyT_take (i := 3) (v := ?_) rfl (by kernel_rfl) (by kernel_rfl) (by kernel_rfl) (by kernel_rfl) (by exact fun _ _ _ h => h) (Or.inl ⟨by kernel_rfl, ?_⟩) hT0 ?_; rotate_left 1; focus (intro w hSw; unfold UdS at hSw; (try dsimp only at hSw); go_simp; try with_reducible rfl); (try simp only [List.getElem_toArray, List.getElem_cons_zero, List.getElem_cons_succ, Act.put, List.setIfInBounds_toArray, List.set_cons_zero, List.set_cons_succ])); (refine wpAnyT_take (i := 4) (v := ?_) rfl (by kernel_rfl) (by kernel_rfl) (by kernel_rfl) (by kernel_rfl) (by exact fun _ _ _ h => h) (Or.inl ⟨by kernel_rfl, ?_⟩) hT0 ?_; rotate_left 1; focus (intro w hSw; unfold UdS at hSw; (try dsimp only at hSw); go_simp; try with_reducible rfl); (try simp only [List.getElem_toArray, List.getElem_cons_zero, List.getElem_cons_succ, Act.put, List.setIfInBounds_toArray, List.set_cons_zero, List.set_cons_succ])); (refine wpAnyT_take (i := 5) (v := ?_) rfl (by kernel_rfl) (by kernel_rfl) (by kernel_rfl) (by kernel_rfl) (by exact fun _ _ _ h => h) (Or.inl ⟨by kernel_rfl, ?_⟩) hT0 ?_; rotate_left 1; focus (intro w hSw; unfold UdS at hSw; (try dsimp only at hSw); go_simp; try with_reducible rfl); (try simp only [List.getElem_toArray, List.getElem_cons_zero, List.getElem_cons_succ, Act.put, List.setIfInBounds_toArray, List.set_cons_zero, List.set_cons_succ])); (refine wpAnyT_take (i := 6) (v := ?_) rfl (by kernel_rfl) (by kernel_rfl) (by kernel_rfl) (by kernel_rfl) (by exact fun _ _ _ h => h) (Or.inl ⟨by kernel_rfl, ?_⟩) hT0 ?_; rotate_left 1; focus (intro w hSw; unfold UdS at hSw; (try dsimp only at hSw); go_simp; try with_reducible rfl); (try simp only [List.getElem_toArray, List.getElem_cons_zero, List.getElem_cons_succ, Act.put, List.setIfInBounds_toArray, List.set_cons_zero, List.set_cons_succ])))
  obtain ⟨v2, w8, hrun2, hown8, hb8⟩ := run_append_more (P := Tryz.prog) w7.drew w5.heap.size 22 22 25 i0 _ 5 80 Tryz.underlying22 hi hz0 hz1 hz2 rfl (by decide) (.slice a1 n c1) n (css.take n).flatten hown7.out (some ⟨b, off, none⟩) (ln - (n + 1)) 0 (css.drop (n + 1)).flatten (by rw [List.drop_eq_nil_of_le (by rw [hcll.out]; omega), show ln - (n + 1) = 0 by omega]; rfl) (fun h => by cases h) (by rw [List.drop_eq_nil_of_le (by rw [hcll.out]; omega)]; intro _ _ j u hu; simp at hu) (by rw [List.drop_eq_nil_of_le (by rw [hcll.out]; omega)]; intro u hu; simp at hu) (by have := hlm.out; unfold maxLen; omega) (by have := hlm.out; omega) hs57.out
  rw [flat_erase, hlen2.out] at hown8
  obtain ⟨a2, c2, rfl, hc2⟩ := own_form hown8
  refine wpAnyT_one (i := 7) (by kernel_rfl) rfl (fun K hK => ?_)
  refine step_append_run (v := .slice a1 n c1) (u := .slice (some ⟨b, off, none⟩) (ln - (n + 1)) 0) rfl _ _ _ _ rfl (by go_simp) (by go_simp) hrun2 ?_
  have y8 := hid ((hb8.block _ hg5.out).trans y7.out)
  have q28 := hid ((hb8.block _ (by have := hg5.out; have := h4w.out; omega)).trans q27.out)
  have q48 := hid ((hb8.block _ (by have := hg5.out; have := h4w.out; omega)).trans q47.out)
  have E8 : Hid (Below w1.heap.size w1 w8) := E7.out.trans (((Below.refl w1.heap.size w7).drew).trans (hb8.mono (Nat.le_of_lt hg5.out)))
  replace hown8 := hid hown8
  clear hrun2 hb8 hT0 hn2 hn3 hn0 e1
  have hT1 : UdS w1.heap.size (.slice a1 n c1) w.heap.size (.slice (some ⟨b, off, none⟩) ln lc) w8 := ⟨box_at y8.out rfl, box_at q28.out rfl⟩
  (refine hK.out _ _ (fun _ => hT1) (fun _ => ?_); clear hK K; (try simp only [Act.put, List.setIfInBounds_toArray]))
  refine wpAnyT_one (i := 8) (by kernel_rfl) rfl (fun K hK => ?_)
  go_simp
  (refine hK.out _ _ (fun _ => hT1) (fun _ => ?_); clear hK K; (try simp only [Act.put, List.setIfInBounds_toArray, List.set_cons_zero, List.set_cons_succ]))
  have c3 := box_at (j := 3) y8.out rfl
  have f0 := box_free y8.out
  refine wpAnyT_one (i := 9) (by kernel_rfl) rfl (fun K hK => ?_)
  go_simp
  (refine hK.out _ _ (fun h => absurd h (by decide)) (fun _ => ?_); clear hK K; (try simp only [Act.put, List.setIfInBounds_toArray]))
  clear c3 f0 hT1
  refine wpAnyT_done (by kernel_rfl) ?_ _
  obtain ⟨w9, hw9⟩ : ∃ x, x = w8.setCell ⟨w1.heap.size, 3, none⟩ (.slice a2 m2 c2) := ⟨_, rfl⟩
  have y9 : Hid (w9.heap[w1.heap.size]? = some (.cells #[.int .i64 5, .int .i64 0, .string ⟨#[]⟩, .slice a2 m2 c2, .slice none 0 0] 25 (0, 0))) := by show _ = _; rw [hw9]; exact row_setCell y8.out
  have hk9 : Hid (∀ b, b ≠ w1.heap.size → w9.heap[b]? = w8.heap[b]?) := fun b hb => by rw [hw9]; exact Below.heap_setCell _ _ _ _ hb
  have hz9 : Hid (w9.heap.size = w8.heap.size) := by show _ = _; rw [hw9]; simp [World.setCell]
  have E9 : Hid (Below w1.heap.size w1 w9) := by show Below _ _ _; rw [hw9]; exact E8.out.setCell (p := ⟨w1.heap.size, 3, none⟩) (Nat.le_refl _) _
  rw [← hw9]
  clear hw9
  have hown9 := hid (own_keep' (w' := w9) hown8.out (fun k' hk' => hk9.out k' (by have := (hown8.out.lt k' hk').1; have := hg5.out; omega)))
  have q49 := hid ((hk9.out _ (by have := h4w.out; omega)).trans q48.out)
  have D9 := hid (D.out.step E9.out)
  clear hown8 y8 q28 q48 hk9 hz9 E8 q27 q47 y7 hown7
  have b0 := box_at (j := 0) y9.out rfl
  have b1 := box_at (j := 1) y9.out rfl
  have b2 := box_at (j := 2) y9.out rfl
  have b3 := box_at (j := 3) y9.out rfl
  have b4 := box_at (j := 4) y9.out rfl
  have c0 := box_at (j := 0) q49.out rfl
  have c1 := box_at (j := 1) q49.out rfl
  have c2 := box_at (j := 2) q49.out rfl
  have c3 := box_at (j := 3) q49.out rfl
  have c4 := box_at (j := 4) q49.out rfl
  have f0 := box_free q49.out
  go_wp2_with fail
  clear b0 b1 b2 b3 b4
  clear c0 c1 c2 c3 c4
  clear f0
  have hbz := hid (set5_below D9.out (Nat.le_add_right w.heap.size 1) (.int .i64 5) (.int .i64 0) (.string ⟨#[]⟩) (.slice a2 m2 c2) (.slice none 0 0))
  have rz := hid (set5_box (u0 := .int .i64 5) (u1 := .int .i64 0) (u2 := .string ⟨#[]⟩) (u3 := .slice a2 m2 c2) (u4 := .slice none 0 0) q49.out)
  have hkp := hid (fun bq (hb : bq ≠ w.heap.size + 1) => set5_other w9 (w.heap.size + 1) (.int .i64 5) (.int .i64 0) (.string ⟨#[]⟩) (.slice a2 m2 c2) (.slice none 0 0) (b := bq) hb)
  have hsz9 := hid (set5_size w9 (w.heap.size + 1) (.int .i64 5) (.int .i64 0) (.string ⟨#[]⟩) (.slice a2 m2 c2) (.slice none 0 0))
  unfold set5 at hbz rz hkp hsz9
  generalize ((((w9.setCell ⟨w.heap.size + 1, 0, none⟩ (.int .i64 5)).setCell ⟨w.heap.size + 1, 1, none⟩ (.int .i64 0)).setCell ⟨w.heap.size + 1, 2, none⟩ (.string ⟨#[]⟩)).setCell ⟨w.heap.size + 1, 3, none⟩ (.slice a2 m2 c2)).setCell ⟨w.heap.size + 1, 4, none⟩ (.slice none 0 0) = w10 at *
  have z0 := box_at (j := 0) rz.out rfl
  have z1 := box_at (j := 1) rz.out rfl
  have z2 := box_at (j := 2) rz.out rfl
  have z3 := box_at (j := 3) rz.out rfl
  have z4 := box_at (j := 4) rz.out rfl
  refine ⟨rfl, _, by simp [results, Tryz.results41, go_sem, z0, z1, z2, z3, z4] <;> exact ⟨rfl, rfl⟩, [.int .i64 5, .int .i64 0, .string ⟨#[]⟩, .slice a2 m2 c2, .slice none 0 0], rfl, hbz.out, ?_⟩
  have e8 := h4w.out
  have e5 := hg5.out
  have hown10 := own_keep' (w' := w10) hown9.out (fun k' hk' => hkp.out k' (by have := (hown9.out.lt k' hk').1; omega))
  refine rd_listV (own_readL (A := w5.heap.size) (e := 25) (css := css.eraseIdx n) ?_ (by rw [← hm2.out]; exact hown10) ?_ ?_ ?_)
  ·rw [List.length_eraseIdx, List.length_eraseIdx, hcll.out, ← hle.out]
  ·intro i x cs hx hc
   rw [List.getElem?_eraseIdx] at hx hc
   by_cases hin : i < n
   ·rw [if_pos hin] at hx hc
    exact (hce.out i x cs hx hc).keep (fun _ h => .inl h) (fun b hb => hbz.out.block b (hSw.out b hb))
   ·rw [if_neg hin] at hx hc
    exact (hce.out (i + 1) x cs hx hc).keep (fun _ h => .inl h) (fun b hb => hbz.out.block b (hSw.out b hb))
  ·intro b hb
   have h1 := hown10.lt b hb
   exact .inr ⟨by have := h1.1; omega, h1.2⟩
  ·have := hlm.out; have := hlen2.out; rw [← hm2.out]; omega
 ·((refine wpAnyT_take (i := 0) (v := ?_) rfl (by kernel_rfl) (by kernel_rfl) (by kernel_rfl) (by kernel_rfl) (by exact fun _ _ _ h => h) (Or.inl ⟨by kernel_rfl, ?_⟩) hT0 ?_; rotate_left 1; focus (intro w hSw; unfold UdS at hSw; (try dsimp only at hSw); go_simp; try with_reducible rfl); (try simp only [List.getElem_toArray, List.getElem_cons_zero, List.getElem_cons_succ, Act.put, List.setIfInBounds_toArray, List.set_cons_zero, List.set_cons_succ])); (refine wpAnyT_take (i := 1) (v := ?_) rfl (by kernel_rfl) (by kernel_rfl) (by kernel_rfl) (by kernel_rfl) (by exact fun _ _ _ h => h) (Or.inl ⟨by kernel_rfl, ?_⟩) hT0 ?_; rotate_left 1; focus (intro w hSw; unfold UdS at hSw; (try dsimp only at hSw); go_simp; try with_reducible rfl); (try simp only [List.getElem_toArray, List.getElem_cons_zero, List.getElem_cons_succ, Act.put, List.setIfInBounds_toArray, List.set_cons_zero, List.set_cons_succ])); (refine wpAnyT_take (i := 2) (v := ?_) rfl (by kernel_rfl) (by kernel_rfl) (by kernel_rfl) (by kernel_rfl) (by exact fun _ _ _ h => h) (Or.inl ⟨by kernel_rfl, ?_⟩) hT0 ?_; rotate_left 1; focus (intro w hSw; unfold UdS at hSw; (try dsimp only at hSw); go_simp; try with_reducible rfl); (try simp only [List.getElem_toArray, List.getElem_cons_zero, List.getElem_cons_succ, Act.put, List.setIfInBounds_toArray, List.set_cons_zero, List.set_cons_succ])); (refine wpAnyT_take (i := 3) (v := ?_) rfl (by kernel_rfl) (by kernel_rfl) (by kernel_rfl) (by kernel_rfl) (by exact fun _ _ _ h => h) (Or.inl ⟨by kernel_rfl, ?_⟩) hT0 ?_; rotate_left 1; focus (intro w hSw; unfold UdS at hSw; (try dsimp only at hSw); go_simp; try with_reducible rfl); (try simp only [List.getElem_toArray, List.getElem_cons_zero, List.getElem_cons_succ, Act.put, List.setIfInBounds_toArray, List.set_cons_zero, List.set_cons_succ])); (refine wpAnyT_take (i := 4) (v := ?_) rfl (by kernel_rfl) (by kernel_rfl) (by kernel_rfl) (by kernel_rfl) (by exact fun _ _ _ h => h) (Or.inl ⟨by kernel_rfl, ?_⟩) hT0 ?_; rotate_left 1; focus (intro w hSw; unfold UdS at hSw; (try dsimp only at hSw); go_simp; try with_reducible rfl); (try simp only [List.getElem_toArray, List.getElem_cons_zero, List.getElem_cons_succ, Act.put, List.setIfInBounds_toArray, List.set_cons_zero, List.set_cons_succ])); (refine wpAnyT_take (i := 5) (v := ?_) rfl (by kernel_rfl) (by kernel_rfl) (by kernel_rfl) (by kernel_rfl) (by exact fun _ _ _ h => h) (Or.inl ⟨by kernel_rfl, ?_⟩) hT0 ?_; rotate_left 1; focus (intro w hSw; unfold UdS at hSw; (try dsimp only at hSw); go_simp; try with_reducible rfl); (try simp only [List.getElem_toArray, List.getElem_cons_zero, List.getElem_cons_succ, Act.put, List.setIfInBounds_toArray, List.set_cons_zero, List.set_cons_succ])); (refine wpAnyT_take (i := 6) (v := ?_) rfl (by kernel_rfl) (by kernel_rfl) (by kernel_rfl) (by kernel_rfl) (by exact fun _ _ _ h => h) (Or.inl ⟨by kernel_rfl, ?_⟩) hT0 ?_; rotate_left 1; focus (intro w hSw; unfold UdS at hSw; (try dsimp only at hSw); go_simp; try with_reducible rfl); (try simp only [List.getElem_toArray, List.getElem_cons_zero, List.getElem_cons_succ, Act.put, List.setIfInBounds_toArray, List.set_cons_zero, List.set_cons_succ])))
  have hlD := hid ((hlie0.out.later (D7.out.step (Below.refl w7.heap.size w7).drew)).drop (n + 1))
  obtain ⟨v2, w8, hrun2, hown8, hb8⟩ := run_append_more (P := Tryz.prog) w7.drew w5.heap.size 22 22 25 i0 _ 5 80 Tryz.underlying22 hi hz0 hz1 hz2 rfl (by decide) (.slice a1 n c1) n (css.take n).flatten hown7.out (some ⟨b, off + (n + 1) * 5, none⟩) (ln - (n + 1)) (lc - (n + 1)) (css.drop (n + 1)).flatten (by rw [flat_len 5 _ hlD.out.1, List.length_drop, hcll.out]) (fun h => by cases h) hlD.out.flat hlD.out.one (by have := hlm.out; unfold maxLen; omega) (by have := hlm.out; omega) hs57.out
  rw [flat_erase, hlen2.out] at hown8
  obtain ⟨a2, c2, rfl, hc2⟩ := own_form hown8
  refine wpAnyT_one (i := 7) (by kernel_rfl) rfl (fun K hK => ?_)
  refine step_append_run (v := .slice a1 n c1) (u := .slice (some ⟨b, off + (n + 1) * 5, none⟩) (ln - (n + 1)) (lc - (n + 1))) rfl _ _ _ _ rfl (by go_simp) (by go_simp) hrun2 ?_
  have y8 := hid ((hb8.block _ hg5.out).trans y7.out)
  have q28 := hid ((hb8.block _ (by have := hg5.out; have := h4w.out; omega)).trans q27.out)
  have q48 := hid ((hb8.block _ (by have := hg5.out; have := h4w.out; omega)).trans q47.out)
  have E8 : Hid (Below w1.heap.size w1 w8) := E7.out.trans (((Below.refl w1.heap.size w7).drew).trans (hb8.mono (Nat.le_of_lt hg5.out)))
  replace hown8 := hid hown8
  clear hrun2 hb8 hT0 hn2 hn3 hn0 e1
  have hT1 : UdS w1.heap.size (.slice a1 n c1) w.heap.size (.slice (some ⟨b, off, none⟩) ln lc) w8 := ⟨box_at y8.out rfl, box_at q28.out rfl⟩
  (refine hK.out _ _ (fun _ => hT1) (fun _ => ?_); clear hK K; (try simp only [Act.put, List.setIfInBounds_toArray]))
  refine wpAnyT_one (i := 8) (by kernel_rfl) rfl (fun K hK => ?_)
  go_simp
  (refine hK.out _ _ (fun _ => hT1) (fun _ => ?_); clear hK K; (try simp only [Act.put, List.setIfInBounds_toArray, List.set_cons_zero, List.set_cons_succ]))
  have c3 := box_at (j := 3) y8.out rfl
  have f0 := box_free y8.out
  refine wpAnyT_one (i := 9) (by kernel_rfl) rfl (fun K hK => ?_)
  go_simp
  (refine hK.out _ _ (fun h => absurd h (by decide)) (fun _ => ?_); clear hK K; (try simp only [Act.put, List.setIfInBounds_toArray]))
  clear c3 f0 hT1
  refine wpAnyT_done (by kernel_rfl) ?_ _
  obtain ⟨w9, hw9⟩ : ∃ x, x = w8.setCell ⟨w1.heap.size, 3, none⟩ (.slice a2 m2 c2) := ⟨_, rfl⟩
  have y9 : Hid (w9.heap[w1.heap.size]? = some (.cells #[.int .i64 5, .int .i64 0, .string ⟨#[]⟩, .slice a2 m2 c2, .slice none 0 0] 25 (0, 0))) := by show _ = _; rw [hw9]; exact row_setCell y8.out
  have hk9 : Hid (∀ b, b ≠ w1.heap.size → w9.heap[b]? = w8.heap[b]?) := fun b hb => by rw [hw9]; exact Below.heap_setCell _ _ _ _ hb
  have hz9 : Hid (w9.heap.size = w8.heap.size) := by show _ = _; rw [hw9]; simp [World.setCell]
  have E9 : Hid (Below w1.heap.size w1 w9) := by show Below _ _ _; rw [hw9]; exact E8.out.setCell (p := ⟨w1.heap.size, 3, none⟩) (Nat.le_refl _) _
  rw [← hw9]
  clear hw9
  have hown9 := hid (own_keep' (w' := w9) hown8.out (fun k' hk' => hk9.out k' (by have := (hown8.out.lt k' hk').1; have := hg5.out; omega)))
  have q49 := hid ((hk9.out _ (by have := h4w.out; omega)).trans q48.out)
  have D9 := hid (D.out.step E9.out)
  clear hown8 y8 q28 q48 hk9 hz9 E8 q27 q47 y7 hown7
  have b0 := box_at (j := 0) y9.out rfl
  have b1 := box_at (j := 1) y9.out rfl
  have b2 := box_at (j := 2) y9.out rfl
  have b3 := box_at (j := 3) y9.out rfl
  have b4 := box_at (j := 4) y9.out rfl
  have c0 := box_at (j := 0) q49.out rfl
  have c1 := box_at (j := 1) q49.out rfl
  have c2 := box_at (j := 2) q49.out rfl
  have c3 := box_at (j := 3) q49.out rfl
  have c4 := box_at (j := 4) q49.out rfl
  have f0 := box_free q49.out
  go_wp2_with fail
  clear b0 b1 b2 b3 b4
  clear c0 c1 c2 c3 c4
  clear f0
  have hbz := hid (set5_below D9.out (Nat.le_add_right w.heap.size 1) (.int .i64 5) (.int .i64 0) (.string ⟨#[]⟩) (.slice a2 m2 c2) (.slice none 0 0))
  have rz := hid (set5_box (u0 := .int .i64 5) (u1 := .int .i64 0) (u2 := .string ⟨#[]⟩) (u3 := .slice a2 m2 c2) (u4 := .slice none 0 0) q49.out)
  have hkp := hid (fun bq (hb : bq ≠ w.heap.size + 1) => set5_other w9 (w.heap.size + 1) (.int .i64 5) (.int .i64 0) (.string ⟨#[]⟩) (.slice a2 m2 c2) (.slice none 0 0) (b := bq) hb)
  have hsz9 := hid (set5_size w9 (w.heap.size + 1) (.int .i64 5) (.int .i64 0) (.string ⟨#[]⟩) (.slice a2 m2 c2) (.slice none 0 0))
  unfold set5 at hbz rz hkp hsz9
  generalize ((((w9.setCell ⟨w.heap.size + 1, 0, none⟩ (.int .i64 5)).setCell ⟨w.heap.size + 1, 1, none⟩ (.int .i64 0)).setCell ⟨w.heap.size + 1, 2, none⟩ (.string ⟨#[]⟩)).setCell ⟨w.heap.size + 1, 3, none⟩ (.slice a2 m2 c2)).setCell ⟨w.heap.size + 1, 4, none⟩ (.slice none 0 0) = w10 at *
  have z0 := box_at (j := 0) rz.out rfl
  have z1 := box_at (j := 1) rz.out rfl
  have z2 := box_at (j := 2) rz.out rfl
  have z3 := box_at (j := 3) rz.out rfl
  have z4 := box_at (j := 4) rz.out rfl
  refine ⟨rfl, _, by simp [results, Tryz.results41, go_sem, z0, z1, z2, z3, z4] <;> exact ⟨rfl, rfl⟩, [.int .i64 5, .int .i64 0, .string ⟨#[]⟩, .slice a2 m2 c2, .slice none 0 0], rfl, hbz.out, ?_⟩
  have e8 := h4w.out
  have e5 := hg5.out
  have hown10 := own_keep' (w' := w10) hown9.out (fun k' hk' => hkp.out k' (by have := (hown9.out.lt k' hk').1; omega))
  refine rd_listV (own_readL (A := w5.heap.size) (e := 25) (css := css.eraseIdx n) ?_ (by rw [← hm2.out]; exact hown10) ?_ ?_ ?_)
  ·rw [List.length_eraseIdx, List.length_eraseIdx, hcll.out, ← hle.out]
  ·intro i x cs hx hc
   rw [List.getElem?_eraseIdx] at hx hc
   by_cases hin : i < n
   ·rw [if_pos hin] at hx hc
    exact (hce.out i x cs hx hc).keep (fun _ h => .inl h) (fun b hb => hbz.out.block b (hSw.out b hb))
   ·rw [if_neg hin] at hx hc
    exact (hce.out (i + 1) x cs hx hc).keep (fun _ h => .inl h) (fun b hb => hbz.out.block b (hSw.out b hb))
  ·intro b hb
   have h1 := hown10.lt b hb
   exact .inr ⟨by have := h1.1; omega, h1.2⟩
  ·have := hlm.out; have := hlen2.out; rw [← hm2.out]; omega
end Go.Proofs.YthjihdpleclejaaGreatDoor
namespace Go.Proofs.YthjihdpleclejaaGreatDoor
open Go.RowKit Go.Proofs
theorem runset_calls {S : Nat → Prop} (x : PVal) : ∀ (ss : List ByteArray) (V : PVal) (w : World) (cs : List Value) (sv : Value), ss ≠ [] → (∀ s ∈ ss, s.size ≤ 140737488355328) → V.mass ≤ 100000000000 → getP V ss = some x → (∀ c, S c → c < w.heap.size) → Rd w S V cs → StrsAt w (Now w) ss sv →
  Calls Tryz.prog 41 #[.agg cs.toArray, sv] w (UnR S (unsetR V ss) w)
 | [], _, _, _, _, h, _, _, _, _, _, _ => absurd rfl h
 | s :: r, V, w, cs, sv, _, h1, hm, hg, hS, hV, hss => by
  have hz := h1 s (by simp)
  rw [getP] at hg
  cases hl : leads V s with
  | none => rw [hl] at hg; cases hg
  | some y =>
   rw [hl] at hg
   simp only at hg
   have hym : y.mass ≤ 100000000000 := Nat.le_trans (parts_mass V y (leads_part hl)) hm
   have ih := fun (hr : r ≠ []) (w' : World) (ys : List Value) (sv' : Value) a b c => runset_calls (S := S) x r y w' ys sv' hr (fun t ht => h1 t (by simp [ht])) hym hg a b c
   rw [unsetR]
   by_cases hr : r = []
   ·subst hr
    rw [if_pos rfl]
    cases hp : place s with
    | some n =>
     have hy : V.l[n]? = some y := by
      rw [leads_place hp] at hl
      by_cases hk : V.k = 5
      ·rw [if_pos hk] at hl; exact hl
      ·rw [if_neg hk] at hl; cases hl
     exact runset_lastL V s n hz hp (List.getElem?_eq_some_iff.1 hy).1 hm hS hV hss
    | none => exact runset_lastF V s hz hp hm hS hV hss
   ·rw [if_neg hr]
    cases hp : place s with
    | some n =>
     have hy : V.l[n]? = some y := by
      rw [leads_place hp] at hl
      by_cases hk : V.k = 5
      ·rw [if_pos hk] at hl; exact hl
      ·rw [if_neg hk] at hl; cases hl
     simp only [hy, Option.getD_some]
     exact runset_inL V y s r n hz hp hr hy hm hS hV hss (ih hr)
    | none =>
     rw [leads_name hp] at hl
     by_cases hk : V.k = 6
     ·rw [if_pos hk] at hl
      simp only [hl, Option.getD_some]
      exact runset_inF V y s r hz hp hr hk hl hm hS hV hss (ih hr)
     ·rw [if_neg hk] at hl; cases hl
set_option maxRecDepth 100000 in
set_option maxHeartbeats 16000000 in
theorem rUnset_calls (V : PVal) (hm : V.mass ≤ 33554432) (pa : ByteArray) (hpa : pa.size ≤ 70368744177664) {w : World} {cs : List Value} (hV : Rd w (Now w) V cs) :
  Calls Tryz.prog 17 #[.agg cs.toArray, .string pa] w (TellR (Now w) (unsetP V pa) w) := by
 have hF1 : Hid (askR V pa ≠ 0 → unsetP V pa = (zeroP, askR V pa)) := unsetR_ask
 have hFn : Hid (∀ l, askS V pa = some l → getP V l = none → unsetP V pa = (V, 0)) := fun l h3 h4 => unsetR_none (askS_is h3).2 (askS_is h3).1 h4
 have hFs : Hid (∀ l, askS V pa = some l → ∀ y, getP V l = some y → unsetP V pa = (unsetR V l, 0)) := fun l h3 y h4 => (unsetR_told hV.fits (askS_is h3).2 (askS_is h3).1 h4).1
 have has := hid (fun (w' : World) (h : Below w.heap.size w w') => rasked_calls V (by omega) pa hpa (hV.later h))
 have hgt : Hid (∀ (l : List ByteArray) (w' : World) (sv : Value), askS V pa = some l → Below w.heap.size w w' → StrsAt w' (Now w') l sv → Calls Tryz.prog 37 #[.agg cs.toArray, sv] w' (Stepd (getP V l) (Now w) w')) := fun l w' sv h1 h2 h3 => rget_calls l V w' cs sv (Now w) (fun s hs => Nat.le_trans ((steps_small (askS_is h1).1).2 s hs) (by decide)) (fun c hc => Nat.lt_of_lt_of_le hc h2.size) (hV.keep (fun _ h => h) (fun c hc => h2.block c hc)) h3
 have hun : Hid (∀ (l : List ByteArray) (w' : World) (sv : Value), askS V pa = some l → ∀ y, getP V l = some y → Below w.heap.size w w' → StrsAt w' (Now w') l sv → Calls Tryz.prog 41 #[.agg cs.toArray, sv] w' (UnR (Now w) (unsetR V l) w')) := fun l w' sv h1 y h4 h2 h3 => runset_calls y l V w' cs sv (unsetR_told hV.fits (askS_is h1).2 (askS_is h1).1 h4).2 (fun s hs => Nat.le_trans ((steps_small (askS_is h1).1).2 s hs) (by decide)) (by omega) h4 (fun c hc => Nat.lt_of_lt_of_le hc h2.size) (hV.keep (fun _ h => h) (fun c hc => h2.block c hc)) h3
 have hN : Hid (askS V pa = none → askR V pa ≠ 0) := askS_no
 have hA : Hid (∀ l, askS V pa = some l → askR V pa = 0) := fun l h => (askS_is h).2
 obtain ⟨TR, hTR⟩ : ∃ R, R = unsetP V pa := ⟨_, rfl⟩
 rw [← hTR] at hF1 hFn hFs ⊢
 obtain ⟨AS, hAS⟩ : ∃ R, R = askS V pa := ⟨_, rfl⟩
 rw [← hAS] at hFn hFs has hgt hun hN hA
 obtain ⟨AR, hAR⟩ : ∃ R, R = askR V pa := ⟨_, rfl⟩
 rw [← hAR] at hF1 has hN hA
 clear hTR hAS hAR
 unfold UnR at hun
 unfold TellR
 unfold Stepd at hgt
 unfold AskedR at has
 have hV0 := hid hV
 obtain ⟨vk, vn, vt, va, vl, vc, vf, vm, vg, rfl⟩ := hV.five
 clear hV hm hpa
 obtain ⟨W0, hW0⟩ : ∃ W0, W0 = (w.alloc (.cells #[.int .i64 vk, .int .i64 vn, .string vt, .slice va vl vc, .slice vf vm vg] 25)).alloc (.cells #[.int .i64 0, .int .i64 0, .string ⟨#[]⟩, .slice none 0 0, .slice none 0 0] 25) := ⟨_, rfl⟩
 have D : Hid (Below w.heap.size w W0) := by show Below _ _ _; rw [hW0]; exact ((below_new _ _).step (below_new _ _))
 have r0 : Hid (W0.heap[w.heap.size]? = some (.cells #[.int .i64 vk, .int .i64 vn, .string vt, .slice va vl vc, .slice vf vm vg] 25 (0, 0))) := by show _ = _; rw [hW0]; exact (al_old (al_at rfl))
 have r1 : Hid (W0.heap[w.heap.size + 1]? = some (.cells #[.int .i64 0, .int .i64 0, .string ⟨#[]⟩, .slice none 0 0, .slice none 0 0] 25 (0, 0))) := by show _ = _; rw [hW0]; exact (al_at (by simp))
 have hW0s : Hid (w.heap.size + 1 < W0.heap.size) := lt_of_block r1.out
 go_enter Tryz.func17, Tryz.ntmps17
 go_upto_region 1 with fail
 rw [← hW0]
 clear hW0
 have a0_0 := box_at (j := 0) r0.out rfl
 have a0_1 := box_at (j := 1) r0.out rfl
 have a0_2 := box_at (j := 2) r0.out rfl
 have a0_3 := box_at (j := 3) r0.out rfl
 have a0_4 := box_at (j := 4) r0.out rfl
 go_wp2_with fail
 refine (has.out _ D.out).mono ?_
 rintro e w1 ⟨h1, hres⟩
 clear a0_0 a0_1 a0_2 a0_3 a0_4
 have N := hid h1
 clear h1
 replace D := hid (D.out.step N.out)
 replace r0 := hid ((N.out.block _ (lt_of_block r0.out)).trans r0.out)
 replace r1 := hid ((N.out.block _ (lt_of_block r1.out)).trans r1.out)
 clear N
 cases AS with
 | none =>
  obtain rfl := hres
  have hA0 := hN.out rfl
  obtain rfl := hF1.out hA0
  have hAj : (AR != 0) = true := by simp [hA0]
  clear hF1 hFn hFs hN hA hun hgt hA0 has
  have c0 := box_at (j := 0) r1.out rfl
  have c1 := box_at (j := 1) r1.out rfl
  have c2 := box_at (j := 2) r1.out rfl
  have c3 := box_at (j := 3) r1.out rfl
  have c4 := box_at (j := 4) r1.out rfl
  have f0 := box_free r1.out
  go_wp2_with fail
  clear c0 c1 c2 c3 c4
  clear f0
  have hbz := hid (set5_below D.out (Nat.le_add_right w.heap.size 1) (.int .i64 0) (.int .i64 0) (.string ⟨#[]⟩) (.slice none 0 0) (.slice none 0 0))
  have rz := hid (set5_box (u0 := .int .i64 0) (u1 := .int .i64 0) (u2 := .string ⟨#[]⟩) (u3 := .slice none 0 0) (u4 := .slice none 0 0) r1.out)
  have hkp := hid (fun bq (hb : bq ≠ w.heap.size + 1) => set5_other w1 (w.heap.size + 1) (.int .i64 0) (.int .i64 0) (.string ⟨#[]⟩) (.slice none 0 0) (.slice none 0 0) (b := bq) hb)
  have hsz9 := hid (set5_size w1 (w.heap.size + 1) (.int .i64 0) (.int .i64 0) (.string ⟨#[]⟩) (.slice none 0 0) (.slice none 0 0))
  unfold set5 at hbz rz hkp hsz9
  generalize ((((w1.setCell ⟨w.heap.size + 1, 0, none⟩ (.int .i64 0)).setCell ⟨w.heap.size + 1, 1, none⟩ (.int .i64 0)).setCell ⟨w.heap.size + 1, 2, none⟩ (.string ⟨#[]⟩)).setCell ⟨w.heap.size + 1, 3, none⟩ (.slice none 0 0)).setCell ⟨w.heap.size + 1, 4, none⟩ (.slice none 0 0) = w9 at *
  have z0 := box_at (j := 0) rz.out rfl
  have z1 := box_at (j := 1) rz.out rfl
  have z2 := box_at (j := 2) rz.out rfl
  have z3 := box_at (j := 3) rz.out rfl
  have z4 := box_at (j := 4) rz.out rfl
  refine ⟨rfl, _, by simp [results, Tryz.results17, go_sem, z0, z1, z2, z3, z4] <;> exact ⟨rfl, rfl⟩, [.int .i64 0, .int .i64 0, .string ⟨#[]⟩, .slice none 0 0, .slice none 0 0], rfl, hbz.out, ?_⟩
  exact rd_zeroP
 | some l =>
  obtain ⟨sv, rfl, hss⟩ := hres
  obtain rfl := hA.out l rfl
  have hs1 := hid (StrsAt.keep hss (S' := Now w1) (fun c h => h.2) (fun _ _ => rfl))
  clear hss hF1 has hN hA
  have a0_0 := box_at (j := 0) r0.out rfl
  have a0_1 := box_at (j := 1) r0.out rfl
  have a0_2 := box_at (j := 2) r0.out rfl
  have a0_3 := box_at (j := 3) r0.out rfl
  have a0_4 := box_at (j := 4) r0.out rfl
  go_wp2_with fail
  refine (hgt.out l _ _ rfl D.out hs1.out).mono ?_
  rintro e w2 ⟨cs3, rfl, h3, hr3⟩
  clear a0_0 a0_1 a0_2 a0_3 a0_4
  replace hs1 := hid (hs1.out.later h3)
  have N := hid h3
  clear h3
  replace D := hid (D.out.step N.out)
  replace r0 := hid ((N.out.block _ (lt_of_block r0.out)).trans r0.out)
  replace r1 := hid ((N.out.block _ (lt_of_block r1.out)).trans r1.out)
  clear N
  clear hgt
  obtain ⟨GP, hGP⟩ : ∃ R, R = getP V l := ⟨_, rfl⟩
  rw [← hGP] at hr3 ⊢
  replace hGP := hid hGP
  obtain ⟨qk, qn, qt, qa, ql, qc, qf, qm, qg, rfl⟩ := hr3.five
  clear hr3
  go_upto_region 5 with fail
  obtain ⟨w3, hw_⟩ : ∃ x, x = w2.alloc (.cells #[.int .i64 qk, .int .i64 qn, .string qt, .slice qa ql qc, .slice qf qm qg] 25) := ⟨_, rfl⟩
  have h_ : Below w2.heap.size w2 w3 := by rw [hw_]; exact below_new _ _
  have rn_ : Hid (w3.heap[w2.heap.size]? = some (.cells #[.int .i64 qk, .int .i64 qn, .string qt, .slice qa ql qc, .slice qf qm qg] 25 (0, 0))) := by show _ = _; rw [hw_]; exact heap_alloc_new _ _
  rw [← hw_]
  clear hw_
  have N := hid h_
  clear h_
  replace D := hid (D.out.step N.out)
  replace r0 := hid ((N.out.block _ (lt_of_block r0.out)).trans r0.out)
  replace r1 := hid ((N.out.block _ (lt_of_block r1.out)).trans r1.out)
  replace hs1 := hid (hs1.out.later N.out)
  clear N
  have r3 := rn_
  clear rn_
  cases GP with
  | none =>
   obtain rfl := hFn.out l rfl hGP.out.symm
   clear hFn hFs hun hs1 hGP
   have a0_0 := box_at (j := 0) r0.out rfl
   have a0_1 := box_at (j := 1) r0.out rfl
   have a0_2 := box_at (j := 2) r0.out rfl
   have a0_3 := box_at (j := 3) r0.out rfl
   have a0_4 := box_at (j := 4) r0.out rfl
   have c0 := box_at (j := 0) r1.out rfl
   have c1 := box_at (j := 1) r1.out rfl
   have c2 := box_at (j := 2) r1.out rfl
   have c3 := box_at (j := 3) r1.out rfl
   have c4 := box_at (j := 4) r1.out rfl
   have f0 := box_free r1.out
   have DD := D
   go_wp2_with fail
   clear c0 c1 c2 c3 c4
   clear f0
   clear a0_0 a0_1 a0_2 a0_3 a0_4
   have hbz := hid (set5_below D.out (Nat.le_add_right w.heap.size 1) (.int .i64 vk) (.int .i64 vn) (.string vt) (.slice va vl vc) (.slice vf vm vg))
   have rz := hid (set5_box (u0 := .int .i64 vk) (u1 := .int .i64 vn) (u2 := .string vt) (u3 := .slice va vl vc) (u4 := .slice vf vm vg) r1.out)
   have hkp := hid (fun bq (hb : bq ≠ w.heap.size + 1) => set5_other w3 (w.heap.size + 1) (.int .i64 vk) (.int .i64 vn) (.string vt) (.slice va vl vc) (.slice vf vm vg) (b := bq) hb)
   have hsz9 := hid (set5_size w3 (w.heap.size + 1) (.int .i64 vk) (.int .i64 vn) (.string vt) (.slice va vl vc) (.slice vf vm vg))
   unfold set5 at hbz rz hkp hsz9
   generalize ((((w3.setCell ⟨w.heap.size + 1, 0, none⟩ (.int .i64 vk)).setCell ⟨w.heap.size + 1, 1, none⟩ (.int .i64 vn)).setCell ⟨w.heap.size + 1, 2, none⟩ (.string vt)).setCell ⟨w.heap.size + 1, 3, none⟩ (.slice va vl vc)).setCell ⟨w.heap.size + 1, 4, none⟩ (.slice vf vm vg) = w9 at *
   have z0 := box_at (j := 0) rz.out rfl
   have z1 := box_at (j := 1) rz.out rfl
   have z2 := box_at (j := 2) rz.out rfl
   have z3 := box_at (j := 3) rz.out rfl
   have z4 := box_at (j := 4) rz.out rfl
   refine ⟨rfl, _, by simp [results, Tryz.results17, go_sem, z0, z1, z2, z3, z4] <;> exact ⟨rfl, rfl⟩, [.int .i64 vk, .int .i64 vn, .string vt, .slice va vl vc, .slice vf vm vg], rfl, hbz.out, ?_⟩
   exact tell_keep (g := w.heap.size + 1) (S := Now w) (hV0.out.keep (w' := w3) (fun _ h => h) (fun c hc => DD.out.block c hc)) (fun c h => .inl h) (Nat.le_add_right _ _) hkp.out hsz9.out
  | some x =>
   obtain rfl := hFs.out l rfl x hGP.out.symm
   have hz1 := hid (lt_of_block r1.out)
   have hd1 := hid D.out.size
   clear hFn hFs hV0
   have a0_0 := box_at (j := 0) r0.out rfl
   have a0_1 := box_at (j := 1) r0.out rfl
   have a0_2 := box_at (j := 2) r0.out rfl
   have a0_3 := box_at (j := 3) r0.out rfl
   have a0_4 := box_at (j := 4) r0.out rfl
   go_wp2_with fail
   refine (hun.out l _ _ rfl x hGP.out.symm D.out hs1.out).mono ?_
   rintro e w4 ⟨cs4, rfl, h4, hr4⟩
   clear a0_0 a0_1 a0_2 a0_3 a0_4
   have hs34 := hid h4.size
   have N := hid h4
   clear h4
   replace D := hid (D.out.step N.out)
   replace r0 := hid ((N.out.block _ (lt_of_block r0.out)).trans r0.out)
   replace r1 := hid ((N.out.block _ (lt_of_block r1.out)).trans r1.out)
   replace r3 := hid ((N.out.block _ (lt_of_block r3.out)).trans r3.out)
   clear N
   clear hun hs1 hGP
   obtain ⟨zk, zn, zt, za, zl, zc, zf, zm, zg, rfl⟩ := hr4.five
   replace hr4 := hid hr4
   have c0 := box_at (j := 0) r1.out rfl
   have c1 := box_at (j := 1) r1.out rfl
   have c2 := box_at (j := 2) r1.out rfl
   have c3 := box_at (j := 3) r1.out rfl
   have c4 := box_at (j := 4) r1.out rfl
   have f0 := box_free r1.out
   go_wp2_with fail
   clear c0 c1 c2 c3 c4
   clear f0
   have hbz := hid (set5_below D.out (Nat.le_add_right w.heap.size 1) (.int .i64 zk) (.int .i64 zn) (.string zt) (.slice za zl zc) (.slice zf zm zg))
   have rz := hid (set5_box (u0 := .int .i64 zk) (u1 := .int .i64 zn) (u2 := .string zt) (u3 := .slice za zl zc) (u4 := .slice zf zm zg) r1.out)
   have hkp := hid (fun bq (hb : bq ≠ w.heap.size + 1) => set5_other w4 (w.heap.size + 1) (.int .i64 zk) (.int .i64 zn) (.string zt) (.slice za zl zc) (.slice zf zm zg) (b := bq) hb)
   have hsz9 := hid (set5_size w4 (w.heap.size + 1) (.int .i64 zk) (.int .i64 zn) (.string zt) (.slice za zl zc) (.slice zf zm zg))
   unfold set5 at hbz rz hkp hsz9
   generalize ((((w4.setCell ⟨w.heap.size + 1, 0, none⟩ (.int .i64 zk)).setCell ⟨w.heap.size + 1, 1, none⟩ (.int .i64 zn)).setCell ⟨w.heap.size + 1, 2, none⟩ (.string zt)).setCell ⟨w.heap.size + 1, 3, none⟩ (.slice za zl zc)).setCell ⟨w.heap.size + 1, 4, none⟩ (.slice zf zm zg) = w9 at *
   have z0 := box_at (j := 0) rz.out rfl
   have z1 := box_at (j := 1) rz.out rfl
   have z2 := box_at (j := 2) rz.out rfl
   have z3 := box_at (j := 3) rz.out rfl
   have z4 := box_at (j := 4) rz.out rfl
   refine ⟨rfl, _, by simp [results, Tryz.results17, go_sem, z0, z1, z2, z3, z4] <;> exact ⟨rfl, rfl⟩, [.int .i64 zk, .int .i64 zn, .string zt, .slice za zl zc, .slice zf zm zg], rfl, hbz.out, ?_⟩
   have e1 := hz1.out
   have e2 := hd1.out
   have e3 := hs34.out
   exact tell_keep (g := w.heap.size + 1) hr4.out (fun c h => h.imp id (fun h => ⟨by have := h.1; omega, h.2⟩)) (Nat.le_add_right _ _) hkp.out hsz9.out
end Go.Proofs.YthjihdpleclejaaGreatDoor
