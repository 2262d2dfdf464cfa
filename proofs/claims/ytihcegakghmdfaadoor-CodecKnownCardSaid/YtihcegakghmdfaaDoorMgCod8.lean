/-
  Walk: the law CodecKnown.
-/
import Derived.Test.YtihcegakghmdfaaDoorMgRep1
import Derived.Test.YtihcegakghmdfaaDoorMgApp
import Derived.Test.YtihcegakghmdfaaDoorMgEnc1
namespace Go.Proofs.YtihcegakghmdfaaDoor
open Go.RowKit Go.Proofs

/-- The Doc of the document's example. -/
def exV : PVal := docV ⟨#[97]⟩ (listV [intV 1])
theorem ex_good : exV.good = 0 := by decide +kernel
theorem ex_enc : exV.enc = [6, 1, 1, 97, 5, 1, 3, 2] := by decide +kernel
theorem rep_none : repB 0 0 [] = [0, 0, 0] := by decide +kernel
theorem rep_null : repB 0 0 [nullV] = [0, 0, 1, 1] := by decide +kernel
theorem varint_300 : varint 300 = [172, 2] := by decide +kernel
/-- What the law's last region reads. -/
def KnS (g : Nat) (v0 v1 v2 pv : Value) (pt : ByteArray) (rv : Value) (rt : ByteArray) (x : World) : Prop :=
  x.cell? ⟨g, 0, none⟩ = some v0 ∧ x.cell? ⟨g, 1, none⟩ = some v1 ∧ x.cell? ⟨g, 2, none⟩ = some v2 ∧ (convert 26 9 pv).run Tryd.prog x = .ok (.string pt) x ∧ (convert 26 9 rv).run Tryd.prog x = .ok (.string rt) x

set_option maxRecDepth 100000 in
set_option maxHeartbeats 8000000 in
theorem known3_calls (w : World) (hT0 : Tabs w) : Calls Tryd.prog 14 #[] w fun e w' => e = .returned (.bool true) ∧ Below w.heap.size w w' := by
  have hT := hid (fun w' hb => Tabs.stays w w' hT0 hb)
  have hi := hid (fun w => int_calls 1 w)
  have hl := hid list_calls
  have hdo := hid (fun w cs h => doc_calls ⟨#[97]⟩ (listV [intV 1]) (Now w) w cs (by decide) h (fun _ h => h))
  have hpu := hid (fun w' cs (hb : Below w.heap.size w w') h => put_calls exV w' cs (by decide +kernel) (hT.out _ hb) h (by rw [ex_enc]; decide))
  unfold Written at hpu
  rw [ex_good, if_pos rfl, ex_enc] at hpu
  have hpr := hid (fun w' (hb : Below w.heap.size w w') => putReply_calls 0 0 (by decide) (by decide) [] (fun x hx => by simp at hx) (by decide) (by decide) (la := none) (c := 0) (hT.out _ hb) (w := w') ⟨none, 0, fun _ => [], rfl, by decide, ⟨by decide, by decide⟩, .inl rfl, fun i x hx => by simp at hx⟩)
  rw [rep_none] at hpr
  have hgr : Hid (∀ (w' : World) (bv : Value), Below w.heap.size w w' → BytesAt w' (Now w') [0, 0, 1, 1] bv → Calls Tryd.prog 56 #[bv] w' fun e w2 => ∃ la c, e = .returned (.tuple #[.agg #[.int .i64 0, .int .i64 0, .slice la 1 c], .int .i64 0]) ∧ Below w'.heap.size w' w2 ∧ RdL w2 (Now w2) [nullV] (.slice la 1 c)) := fun w' bv hb h =>
    getReply_calls 0 0 (by decide) (by decide) [nullV] (fun x hx => by
      simp only [List.mem_singleton] at hx
      subst hx
      exact ⟨good_null, (rd_flat w' (Now w') (k := 1) (n := 0) (s := ByteArray.empty) (by unfold I64; omega) (by unfold I64; omega) (by decide)).fits⟩) (by decide) (by rw [rep_null]; exact h) (hT.out _ hb) (by rw [rep_null]; decide)
  have haw := hid awake3_calls
  have hva := hid (fun w => evarint_calls 300 (by decide) w)
  rw [varint_300] at hva
  have hnu := hid null_calls
  go_enter Tryd.func14, Tryd.ntmps14
  go_wp2_with fail
  refine (hi.out _).mono ?_
  rintro e w1 ⟨rfl, h1⟩
  go_wp2_with fail
  refine (hl.out _ _ _ _).mono ?_
  rintro e w2 ⟨rfl, h2⟩
  have hn1 := below_new w1 (.cells #[.int .i64 3, .int .i64 1, .string ByteArray.empty, .slice none 0 0, .slice none 0 0] 25)
  have D := hid ((h1.step hn1).step h2)
  have hRd2 : Rd w2 (Now w2) (listV [intV 1]) [.int .i64 5, .int .i64 0, .string ByteArray.empty, .slice (some ⟨w1.heap.size, 0, none⟩) 1 1, .slice none 0 0] := by
    have h := rdL_one (w := w1) (S := Now w1) (V := intV 1) (rd_flat w1 (Now w1) (k := 3) (n := 1) (s := ByteArray.empty) (by unfold I64; omega) (by unfold I64; omega) (by decide)) h2 (fun _ h => h)
    refine rd_list (l := [intV 1]) (c := 1) (h.keep (fun b hb => ?_) (fun _ _ => rfl))
    have hsz : w1.heap.size < w2.heap.size := Nat.lt_of_lt_of_le (by simp) h2.size
    rcases hb with hb | hb
    · exact Nat.lt_trans hb hsz
    · subst hb; exact hsz
  replace hRd2 := hid hRd2
  clear h1 h2 hn1
  go_wp2_with fail
  refine (hdo.out _ _ hRd2.out).mono ?_
  rintro e w3 ⟨fa, fc, rfl, hr3, h3⟩
  replace hr3 : Hid (Rd w3 (Now w3) exV _) := hr3.keep (fun b hb => by
    rcases hb with hb | hb
    · exact Nat.lt_of_lt_of_le hb h3.size
    · exact hb.2) (fun _ _ => rfl)
  replace D := hid (D.out.step h3)
  clear h3 hRd2
  go_wp2_with fail
  refine (hpu.out _ _ D.out hr3.out).mono ?_
  rintro e w4 ⟨v4, rfl, hp4⟩
  obtain ⟨qa, qc, rfl, _⟩ := hp4.any
  replace D := hid (D.out.step hp4.below)
  replace hp4 := hid hp4
  clear hr3
  go_wp2_with fail
  refine (hpr.out _ D.out).mono ?_
  rintro e w5 ⟨v5, rfl, hp5⟩
  obtain ⟨oa, oc, rfl, _⟩ := hp5.any
  replace D := hid (D.out.step hp5.below)
  replace hp4 := hid (hp4.out.later hp5.below)
  replace hp5 := hid hp5
  go_wp2_with fail
  refine (hgr.out _ _ (D.out.step (below_new _ _)) (bytes_new [0, 0, 1, 1] rfl (by decide))).mono ?_
  rintro e w6 ⟨ra, rc, rfl, h6, hr6⟩
  replace D := hid (D.out.step ((below_new w5 (.cells #[.int .u8 0, .int .u8 0, .int .u8 1, .int .u8 1] 5)).step h6))
  have h56 := (below_new w5 (.cells #[.int .u8 0, .int .u8 0, .int .u8 1, .int .u8 1] 5)).step h6
  replace hp4 := hid (hp4.out.later h56)
  replace hp5 := hid (hp5.out.later h56)
  clear h6 h56
  go_upto_region 4 with fail
  obtain ⟨w7, hw7⟩ : ∃ w7, w7 = w6.alloc (.cells #[.int .i64 0, .int .i64 0, .slice ra 1 rc] 82) := ⟨_, rfl⟩
  have h7 : Below w6.heap.size w6 w7 := by rw [hw7]; exact below_new _ _
  have r5 : Hid (w7.heap[w6.heap.size]? = some (.cells #[.int .i64 0, .int .i64 0, .slice ra 1 rc] 82 (0, 0))) := by show _ = _; rw [hw7]; exact heap_alloc_new _ _
  rw [← hw7]
  clear hw7
  replace D := hid (D.out.step h7)
  replace hp4 := hid (hp4.out.later h7)
  replace hp5 := hid (hp5.out.later h7)
  replace hr6 := hid (hr6.later h7)
  clear h7
  go_wp2_with fail
  refine (getReply_short (bytes_new [0] rfl (by decide))).mono ?_
  rintro e w8 ⟨rfl, h8⟩
  replace h8 := (below_new w7 _).step h8
  go_upto_region 5 with fail
  obtain ⟨w9, hw9⟩ : ∃ w9, w9 = w8.alloc (.cells #[.int .i64 0, .int .i64 0, .slice none 0 0] 82) := ⟨_, rfl⟩
  have h9 : Below w8.heap.size w8 w9 := by rw [hw9]; exact below_new _ _
  rw [← hw9]
  clear hw9
  replace h8 := h8.step h9
  replace r5 := hid ((h8.block _ (lt_of_block r5.out)).trans r5.out)
  replace D := hid (D.out.step h8)
  replace hp4 := hid (hp4.out.later h8)
  replace hp5 := hid (hp5.out.later h8)
  replace hr6 := hid (hr6.out.later h8)
  clear h8 h9
  have hS : Hid (∀ x, Below w9.heap.size w9 x → KnS w6.heap.size (.int .i64 0) (.int .i64 0) (.slice ra 1 rc) (.slice qa 8 qc) ⟨#[6, 1, 1, 97, 5, 1, 3, 2]⟩ (.slice oa 3 oc) ⟨#[0, 0, 0]⟩ x) := fun x h => by
    have h5 := (h.block _ (lt_of_block r5.out)).trans r5.out
    exact ⟨box_at h5 rfl, box_at h5 rfl, box_at h5 rfl, conv_buf Tryd.underlying26 Tryd.underlying5 Tryd.underlying9 (hp4.out.later h), conv_buf Tryd.underlying26 Tryd.underlying5 Tryd.underlying9 (hp5.out.later h)⟩
  clear hp4 hp5 r5 hgr hpr hpu hdo hl hi
  refine wp_region_T (KnS w6.heap.size (.int .i64 0) (.int .i64 0) (.slice ra 1 rc) (.slice qa 8 qc) ⟨#[6, 1, 1, 97, 5, 1, 3, 2]⟩ (.slice oa 3 oc) ⟨#[0, 0, 0]⟩) 60 (by kernel_rfl) ?_
  refine wpAnyT_one (i := 0) (by kernel_rfl) rfl (fun K hK => ?_)
  go_simp
  refine (haw.out _ (hT.out _ D.out.drew)).mono ?_
  rintro e wa ⟨rfl, h⟩
  have hB0 := hid ((Below.refl w9.heap.size w9).drew.step h)
  have hS0 := hS.out _ hB0.out
  clear h
  (refine hK.out _ _ (fun _ => hS0) (fun _ => ?_); clear hK K; (try simp only [Act.put, List.setIfInBounds_toArray, List.set_cons_zero, List.set_cons_succ]))
  ((refine wpAnyT_take (i := 1) (v := ?_) rfl (by kernel_rfl) (by kernel_rfl) (by kernel_rfl) (by kernel_rfl) (by exact fun _ _ _ h => h) (Or.inl ⟨by kernel_rfl, ?_⟩) hS0 ?_; rotate_left 1; focus (intro w hSw; unfold KnS at hSw; (try dsimp only at hSw); go_simp; try with_reducible rfl); (try simp only [List.getElem_toArray, List.getElem_cons_zero, List.getElem_cons_succ, Act.put, List.setIfInBounds_toArray, List.set_cons_zero, List.set_cons_succ])); (refine wpAnyT_take (i := 2) (v := ?_) rfl (by kernel_rfl) (by kernel_rfl) (by kernel_rfl) (by kernel_rfl) (by exact fun _ _ _ h => h) (Or.inl ⟨by kernel_rfl, ?_⟩) hS0 ?_; rotate_left 1; focus (intro w hSw; unfold KnS at hSw; (try dsimp only at hSw); go_simp; try with_reducible rfl); (try simp only [List.getElem_toArray, List.getElem_cons_zero, List.getElem_cons_succ, Act.put, List.setIfInBounds_toArray, List.set_cons_zero, List.set_cons_succ])); (refine wpAnyT_take (i := 3) (v := ?_) rfl (by kernel_rfl) (by kernel_rfl) (by kernel_rfl) (by kernel_rfl) (by exact fun _ _ _ h => h) (Or.inl ⟨by kernel_rfl, ?_⟩) hS0 ?_; rotate_left 1; focus (intro w hSw; unfold KnS at hSw; (try dsimp only at hSw); go_simp; try with_reducible rfl); (try simp only [List.getElem_toArray, List.getElem_cons_zero, List.getElem_cons_succ, Act.put, List.setIfInBounds_toArray, List.set_cons_zero, List.set_cons_succ])); (refine wpAnyT_take (i := 4) (v := ?_) rfl (by kernel_rfl) (by kernel_rfl) (by kernel_rfl) (by kernel_rfl) (by exact fun _ _ _ h => h) (Or.inl ⟨by kernel_rfl, ?_⟩) hS0 ?_; rotate_left 1; focus (intro w hSw; unfold KnS at hSw; (try dsimp only at hSw); go_simp; try with_reducible rfl); (try simp only [List.getElem_toArray, List.getElem_cons_zero, List.getElem_cons_succ, Act.put, List.setIfInBounds_toArray, List.set_cons_zero, List.set_cons_succ])); (refine wpAnyT_take (i := 5) (v := ?_) rfl (by kernel_rfl) (by kernel_rfl) (by kernel_rfl) (by kernel_rfl) (by exact fun _ _ _ h => h) (Or.inl ⟨by kernel_rfl, ?_⟩) hS0 ?_; rotate_left 1; focus (intro w hSw; unfold KnS at hSw; (try dsimp only at hSw); go_simp; try with_reducible rfl); (try simp only [List.getElem_toArray, List.getElem_cons_zero, List.getElem_cons_succ, Act.put, List.setIfInBounds_toArray, List.set_cons_zero, List.set_cons_succ])); (refine wpAnyT_take (i := 6) (v := ?_) rfl (by kernel_rfl) (by kernel_rfl) (by kernel_rfl) (by kernel_rfl) (by exact fun _ _ _ h => h) (Or.inl ⟨by kernel_rfl, ?_⟩) hS0 ?_; rotate_left 1; focus (intro w hSw; unfold KnS at hSw; (try dsimp only at hSw); go_simp; try with_reducible rfl); (try simp only [List.getElem_toArray, List.getElem_cons_zero, List.getElem_cons_succ, Act.put, List.setIfInBounds_toArray, List.set_cons_zero, List.set_cons_succ])); (refine wpAnyT_take (i := 7) (v := ?_) rfl (by kernel_rfl) (by kernel_rfl) (by kernel_rfl) (by kernel_rfl) (by exact fun _ _ _ h => h) (Or.inl ⟨by kernel_rfl, ?_⟩) hS0 ?_; rotate_left 1; focus (intro w hSw; unfold KnS at hSw; (try dsimp only at hSw); go_simp; try with_reducible rfl); (try simp only [List.getElem_toArray, List.getElem_cons_zero, List.getElem_cons_succ, Act.put, List.setIfInBounds_toArray, List.set_cons_zero, List.set_cons_succ])); (refine wpAnyT_take (i := 8) (v := ?_) rfl (by kernel_rfl) (by kernel_rfl) (by kernel_rfl) (by kernel_rfl) (by exact fun _ _ _ h => h) (Or.inl ⟨by kernel_rfl, ?_⟩) hS0 ?_; rotate_left 1; focus (intro w hSw; unfold KnS at hSw; (try dsimp only at hSw); go_simp; try with_reducible rfl); (try simp only [List.getElem_toArray, List.getElem_cons_zero, List.getElem_cons_succ, Act.put, List.setIfInBounds_toArray, List.set_cons_zero, List.set_cons_succ])); (refine wpAnyT_take (i := 9) (v := ?_) rfl (by kernel_rfl) (by kernel_rfl) (by kernel_rfl) (by kernel_rfl) (by exact fun _ _ _ h => h) (Or.inl ⟨by kernel_rfl, ?_⟩) hS0 ?_; rotate_left 1; focus (intro w hSw; unfold KnS at hSw; (try dsimp only at hSw); go_simp; try with_reducible rfl); (try simp only [List.getElem_toArray, List.getElem_cons_zero, List.getElem_cons_succ, Act.put, List.setIfInBounds_toArray, List.set_cons_zero, List.set_cons_succ])); (refine wpAnyT_take (i := 10) (v := ?_) rfl (by kernel_rfl) (by kernel_rfl) (by kernel_rfl) (by kernel_rfl) (by exact fun _ _ _ h => h) (Or.inl ⟨by kernel_rfl, ?_⟩) hS0 ?_; rotate_left 1; focus (intro w hSw; unfold KnS at hSw; (try dsimp only at hSw); go_simp; try with_reducible rfl); (try simp only [List.getElem_toArray, List.getElem_cons_zero, List.getElem_cons_succ, Act.put, List.setIfInBounds_toArray, List.set_cons_zero, List.set_cons_succ])))
  refine wpAnyT_one (i := 11) (by kernel_rfl) rfl (fun K hK => ?_)
  go_simp
  refine (hva.out _).mono ?_
  rintro e wb ⟨vb, rfl, hbb⟩
  have hB1 := hid (hB0.out.step hbb.below)
  have cvb := conv_buf (P := Tryd.prog) Tryd.underlying26 Tryd.underlying5 Tryd.underlying9 hbb
  clear hbb hS0
  have hS1 := hS.out _ hB1.out
  (refine hK.out _ _ (fun _ => hS1) (fun _ => ?_); clear hK K; (try simp only [Act.put, List.setIfInBounds_toArray, List.set_cons_zero, List.set_cons_succ]))
  refine wpAnyT_one (i := 12) (by kernel_rfl) rfl (fun K hK => ?_)
  go_simp
  (refine hK.out _ _ (fun _ => hS1) (fun _ => ?_); clear hK K; (try simp only [Act.put, List.setIfInBounds_toArray, List.set_cons_zero, List.set_cons_succ]))
  clear cvb
  ((refine wpAnyT_take (i := 13) (v := ?_) rfl (by kernel_rfl) (by kernel_rfl) (by kernel_rfl) (by kernel_rfl) (by exact fun _ _ _ h => h) (Or.inl ⟨by kernel_rfl, ?_⟩) hS1 ?_; rotate_left 1; focus (intro w hSw; unfold KnS at hSw; (try dsimp only at hSw); go_simp; try with_reducible rfl); (try simp only [List.getElem_toArray, List.getElem_cons_zero, List.getElem_cons_succ, Act.put, List.setIfInBounds_toArray, List.set_cons_zero, List.set_cons_succ])); (refine wpAnyT_take (i := 14) (v := ?_) rfl (by kernel_rfl) (by kernel_rfl) (by kernel_rfl) (by kernel_rfl) (by exact fun _ _ _ h => h) (Or.inl ⟨by kernel_rfl, ?_⟩) hS1 ?_; rotate_left 1; focus (intro w hSw; unfold KnS at hSw; (try dsimp only at hSw); go_simp; try with_reducible rfl); (try simp only [List.getElem_toArray, List.getElem_cons_zero, List.getElem_cons_succ, Act.put, List.setIfInBounds_toArray, List.set_cons_zero, List.set_cons_succ])); (refine wpAnyT_take (i := 15) (v := ?_) rfl (by kernel_rfl) (by kernel_rfl) (by kernel_rfl) (by kernel_rfl) (by exact fun _ _ _ h => h) (Or.inl ⟨by kernel_rfl, ?_⟩) hS1 ?_; rotate_left 1; focus (intro w hSw; unfold KnS at hSw; (try dsimp only at hSw); go_simp; try with_reducible rfl); (try simp only [List.getElem_toArray, List.getElem_cons_zero, List.getElem_cons_succ, Act.put, List.setIfInBounds_toArray, List.set_cons_zero, List.set_cons_succ])))
  refine wpAnyT_one (i := 16) (by kernel_rfl) rfl (fun K hK => ?_)
  go_simp
  have hB16 := hid (hB1.out.step (below_new wb (.cells #[.int .u8 3, .int .u8 129, .int .u8 0] 5)))
  have hS16 := hS.out _ hB16.out
  (refine hK.out _ _ (fun _ => hS16) (fun _ => ?_); clear hK K; (try simp only [Act.put, List.setIfInBounds_toArray, List.set_cons_zero, List.set_cons_succ]))
  refine wpAnyT_one (i := 17) (by kernel_rfl) rfl (fun K hK => ?_)
  go_simp
  refine (fails_calls 4 (l := [3, 129, 0]) rfl (bytes_new [3, 129, 0] rfl (by decide)) (hT.out _ (D.out.step hB16.out)) (by decide)).mono ?_
  rintro e w16 ⟨rfl, h⟩
  have hB17 := hid (hB16.out.step h)
  clear h hS16 hB16
  have hS17 := hS.out _ hB17.out
  (refine hK.out _ _ (fun _ => hS17) (fun _ => ?_); clear hK K; (try simp only [Act.put, List.setIfInBounds_toArray, List.set_cons_zero, List.set_cons_succ]))
  ((refine wpAnyT_take (i := 18) (v := ?_) rfl (by kernel_rfl) (by kernel_rfl) (by kernel_rfl) (by kernel_rfl) (by exact fun _ _ _ h => h) (Or.inl ⟨by kernel_rfl, ?_⟩) hS17 ?_; rotate_left 1; focus (intro w hSw; unfold KnS at hSw; (try dsimp only at hSw); go_simp; try with_reducible rfl); (try simp only [List.getElem_toArray, List.getElem_cons_zero, List.getElem_cons_succ, Act.put, List.setIfInBounds_toArray, List.set_cons_zero, List.set_cons_succ])); (refine wpAnyT_take (i := 19) (v := ?_) rfl (by kernel_rfl) (by kernel_rfl) (by kernel_rfl) (by kernel_rfl) (by exact fun _ _ _ h => h) (Or.inl ⟨by kernel_rfl, ?_⟩) hS17 ?_; rotate_left 1; focus (intro w hSw; unfold KnS at hSw; (try dsimp only at hSw); go_simp; try with_reducible rfl); (try simp only [List.getElem_toArray, List.getElem_cons_zero, List.getElem_cons_succ, Act.put, List.setIfInBounds_toArray, List.set_cons_zero, List.set_cons_succ])))
  refine wpAnyT_one (i := 20) (by kernel_rfl) rfl (fun K hK => ?_)
  go_simp
  have hB20 := hid (hB17.out.step (below_new w16 (.cells #[.int .u8 2, .int .u8 2] 5)))
  have hS20 := hS.out _ hB20.out
  (refine hK.out _ _ (fun _ => hS20) (fun _ => ?_); clear hK K; (try simp only [Act.put, List.setIfInBounds_toArray, List.set_cons_zero, List.set_cons_succ]))
  refine wpAnyT_one (i := 21) (by kernel_rfl) rfl (fun K hK => ?_)
  go_simp
  refine (fails_calls 4 (l := [2, 2]) rfl (bytes_new [2, 2] rfl (by decide)) (hT.out _ (D.out.step hB20.out)) (by decide)).mono ?_
  rintro e w20 ⟨rfl, h⟩
  have hB21 := hid (hB20.out.step h)
  clear h hS20 hB20
  have hS21 := hS.out _ hB21.out
  (refine hK.out _ _ (fun _ => hS21) (fun _ => ?_); clear hK K; (try simp only [Act.put, List.setIfInBounds_toArray, List.set_cons_zero, List.set_cons_succ]))
  ((refine wpAnyT_take (i := 22) (v := ?_) rfl (by kernel_rfl) (by kernel_rfl) (by kernel_rfl) (by kernel_rfl) (by exact fun _ _ _ h => h) (Or.inl ⟨by kernel_rfl, ?_⟩) hS21 ?_; rotate_left 1; focus (intro w hSw; unfold KnS at hSw; (try dsimp only at hSw); go_simp; try with_reducible rfl); (try simp only [List.getElem_toArray, List.getElem_cons_zero, List.getElem_cons_succ, Act.put, List.setIfInBounds_toArray, List.set_cons_zero, List.set_cons_succ])); (refine wpAnyT_take (i := 23) (v := ?_) rfl (by kernel_rfl) (by kernel_rfl) (by kernel_rfl) (by kernel_rfl) (by exact fun _ _ _ h => h) (Or.inl ⟨by kernel_rfl, ?_⟩) hS21 ?_; rotate_left 1; focus (intro w hSw; unfold KnS at hSw; (try dsimp only at hSw); go_simp; try with_reducible rfl); (try simp only [List.getElem_toArray, List.getElem_cons_zero, List.getElem_cons_succ, Act.put, List.setIfInBounds_toArray, List.set_cons_zero, List.set_cons_succ])))
  refine wpAnyT_one (i := 24) (by kernel_rfl) rfl (fun K hK => ?_)
  go_simp
  have hB24 := hid (hB21.out.step (below_new w20 (.cells #[.int .u8 4, .int .u8 1] 5)))
  have hS24 := hS.out _ hB24.out
  (refine hK.out _ _ (fun _ => hS24) (fun _ => ?_); clear hK K; (try simp only [Act.put, List.setIfInBounds_toArray, List.set_cons_zero, List.set_cons_succ]))
  refine wpAnyT_one (i := 25) (by kernel_rfl) rfl (fun K hK => ?_)
  go_simp
  refine (fails_calls 17 (l := [4, 1]) rfl (bytes_new [4, 1] rfl (by decide)) (hT.out _ (D.out.step hB24.out)) (by decide)).mono ?_
  rintro e w24 ⟨rfl, h⟩
  have hB25 := hid (hB24.out.step h)
  clear h hS24 hB24
  have hS25 := hS.out _ hB25.out
  (refine hK.out _ _ (fun _ => hS25) (fun _ => ?_); clear hK K; (try simp only [Act.put, List.setIfInBounds_toArray, List.set_cons_zero, List.set_cons_succ]))
  ((refine wpAnyT_take (i := 26) (v := ?_) rfl (by kernel_rfl) (by kernel_rfl) (by kernel_rfl) (by kernel_rfl) (by exact fun _ _ _ h => h) (Or.inl ⟨by kernel_rfl, ?_⟩) hS25 ?_; rotate_left 1; focus (intro w hSw; unfold KnS at hSw; (try dsimp only at hSw); go_simp; try with_reducible rfl); (try simp only [List.getElem_toArray, List.getElem_cons_zero, List.getElem_cons_succ, Act.put, List.setIfInBounds_toArray, List.set_cons_zero, List.set_cons_succ])); (refine wpAnyT_take (i := 27) (v := ?_) rfl (by kernel_rfl) (by kernel_rfl) (by kernel_rfl) (by kernel_rfl) (by exact fun _ _ _ h => h) (Or.inl ⟨by kernel_rfl, ?_⟩) hS25 ?_; rotate_left 1; focus (intro w hSw; unfold KnS at hSw; (try dsimp only at hSw); go_simp; try with_reducible rfl); (try simp only [List.getElem_toArray, List.getElem_cons_zero, List.getElem_cons_succ, Act.put, List.setIfInBounds_toArray, List.set_cons_zero, List.set_cons_succ])))
  refine wpAnyT_one (i := 28) (by kernel_rfl) rfl (fun K hK => ?_)
  go_simp
  have hB28 := hid (hB25.out.step (below_new w24 (.cells #[.int .u8 1, .int .u8 1] 5)))
  have hS28 := hS.out _ hB28.out
  (refine hK.out _ _ (fun _ => hS28) (fun _ => ?_); clear hK K; (try simp only [Act.put, List.setIfInBounds_toArray, List.set_cons_zero, List.set_cons_succ]))
  refine wpAnyT_one (i := 29) (by kernel_rfl) rfl (fun K hK => ?_)
  go_simp
  refine (fails_calls 4 (l := [1, 1]) rfl (bytes_new [1, 1] rfl (by decide)) (hT.out _ (D.out.step hB28.out)) (by decide)).mono ?_
  rintro e w28 ⟨rfl, h⟩
  have hB29 := hid (hB28.out.step h)
  clear h hS28 hB28
  have hS29 := hS.out _ hB29.out
  (refine hK.out _ _ (fun _ => hS29) (fun _ => ?_); clear hK K; (try simp only [Act.put, List.setIfInBounds_toArray, List.set_cons_zero, List.set_cons_succ]))
  ((refine wpAnyT_take (i := 30) (v := ?_) rfl (by kernel_rfl) (by kernel_rfl) (by kernel_rfl) (by kernel_rfl) (by exact fun _ _ _ h => h) (Or.inl ⟨by kernel_rfl, ?_⟩) hS29 ?_; rotate_left 1; focus (intro w hSw; unfold KnS at hSw; (try dsimp only at hSw); go_simp; try with_reducible rfl); (try simp only [List.getElem_toArray, List.getElem_cons_zero, List.getElem_cons_succ, Act.put, List.setIfInBounds_toArray, List.set_cons_zero, List.set_cons_succ])); (refine wpAnyT_take (i := 31) (v := ?_) rfl (by kernel_rfl) (by kernel_rfl) (by kernel_rfl) (by kernel_rfl) (by exact fun _ _ _ h => h) (Or.inl ⟨by kernel_rfl, ?_⟩) hS29 ?_; rotate_left 1; focus (intro w hSw; unfold KnS at hSw; (try dsimp only at hSw); go_simp; try with_reducible rfl); (try simp only [List.getElem_toArray, List.getElem_cons_zero, List.getElem_cons_succ, Act.put, List.setIfInBounds_toArray, List.set_cons_zero, List.set_cons_succ])))
  refine wpAnyT_one (i := 32) (by kernel_rfl) rfl (fun K hK => ?_)
  go_simp
  have hB32 := hid (hB29.out.step (below_new w28 (.cells #[.int .u8 5, .int .u8 33] 5)))
  have hS32 := hS.out _ hB32.out
  (refine hK.out _ _ (fun _ => hS32) (fun _ => ?_); clear hK K; (try simp only [Act.put, List.setIfInBounds_toArray, List.set_cons_zero, List.set_cons_succ]))
  refine wpAnyT_one (i := 33) (by kernel_rfl) rfl (fun K hK => ?_)
  go_simp
  refine (fails_calls 15 (l := [5, 33]) rfl (bytes_new [5, 33] rfl (by decide)) (hT.out _ (D.out.step hB32.out)) (by decide)).mono ?_
  rintro e w32 ⟨rfl, h⟩
  have hB33 := hid (hB32.out.step h)
  clear h hS32 hB32
  have hS33 := hS.out _ hB33.out
  (refine hK.out _ _ (fun _ => hS33) (fun _ => ?_); clear hK K; (try simp only [Act.put, List.setIfInBounds_toArray, List.set_cons_zero, List.set_cons_succ]))
  ((refine wpAnyT_take (i := 34) (v := ?_) rfl (by kernel_rfl) (by kernel_rfl) (by kernel_rfl) (by kernel_rfl) (by exact fun _ _ _ h => h) (Or.inl ⟨by kernel_rfl, ?_⟩) hS33 ?_; rotate_left 1; focus (intro w hSw; unfold KnS at hSw; (try dsimp only at hSw); go_simp; try with_reducible rfl); (try simp only [List.getElem_toArray, List.getElem_cons_zero, List.getElem_cons_succ, Act.put, List.setIfInBounds_toArray, List.set_cons_zero, List.set_cons_succ])); (refine wpAnyT_take (i := 35) (v := ?_) rfl (by kernel_rfl) (by kernel_rfl) (by kernel_rfl) (by kernel_rfl) (by exact fun _ _ _ h => h) (Or.inl ⟨by kernel_rfl, ?_⟩) hS33 ?_; rotate_left 1; focus (intro w hSw; unfold KnS at hSw; (try dsimp only at hSw); go_simp; try with_reducible rfl); (try simp only [List.getElem_toArray, List.getElem_cons_zero, List.getElem_cons_succ, Act.put, List.setIfInBounds_toArray, List.set_cons_zero, List.set_cons_succ])); (refine wpAnyT_take (i := 36) (v := ?_) rfl (by kernel_rfl) (by kernel_rfl) (by kernel_rfl) (by kernel_rfl) (by exact fun _ _ _ h => h) (Or.inl ⟨by kernel_rfl, ?_⟩) hS33 ?_; rotate_left 1; focus (intro w hSw; unfold KnS at hSw; (try dsimp only at hSw); go_simp; try with_reducible rfl); (try simp only [List.getElem_toArray, List.getElem_cons_zero, List.getElem_cons_succ, Act.put, List.setIfInBounds_toArray, List.set_cons_zero, List.set_cons_succ])); (refine wpAnyT_take (i := 37) (v := ?_) rfl (by kernel_rfl) (by kernel_rfl) (by kernel_rfl) (by kernel_rfl) (by exact fun _ _ _ h => h) (Or.inl ⟨by kernel_rfl, ?_⟩) hS33 ?_; rotate_left 1; focus (intro w hSw; unfold KnS at hSw; (try dsimp only at hSw); go_simp; try with_reducible rfl); (try simp only [List.getElem_toArray, List.getElem_cons_zero, List.getElem_cons_succ, Act.put, List.setIfInBounds_toArray, List.set_cons_zero, List.set_cons_succ])); (refine wpAnyT_take (i := 38) (v := ?_) rfl (by kernel_rfl) (by kernel_rfl) (by kernel_rfl) (by kernel_rfl) (by exact fun _ _ _ h => h) (Or.inl ⟨by kernel_rfl, ?_⟩) hS33 ?_; rotate_left 1; focus (intro w hSw; unfold KnS at hSw; (try dsimp only at hSw); go_simp; try with_reducible rfl); (try simp only [List.getElem_toArray, List.getElem_cons_zero, List.getElem_cons_succ, Act.put, List.setIfInBounds_toArray, List.set_cons_zero, List.set_cons_succ])); (refine wpAnyT_take (i := 39) (v := ?_) rfl (by kernel_rfl) (by kernel_rfl) (by kernel_rfl) (by kernel_rfl) (by exact fun _ _ _ h => h) (Or.inl ⟨by kernel_rfl, ?_⟩) hS33 ?_; rotate_left 1; focus (intro w hSw; unfold KnS at hSw; (try dsimp only at hSw); go_simp; try with_reducible rfl); (try simp only [List.getElem_toArray, List.getElem_cons_zero, List.getElem_cons_succ, Act.put, List.setIfInBounds_toArray, List.set_cons_zero, List.set_cons_succ])); (refine wpAnyT_take (i := 40) (v := ?_) rfl (by kernel_rfl) (by kernel_rfl) (by kernel_rfl) (by kernel_rfl) (by exact fun _ _ _ h => h) (Or.inl ⟨by kernel_rfl, ?_⟩) hS33 ?_; rotate_left 1; focus (intro w hSw; unfold KnS at hSw; (try dsimp only at hSw); go_simp; try with_reducible rfl); (try simp only [List.getElem_toArray, List.getElem_cons_zero, List.getElem_cons_succ, Act.put, List.setIfInBounds_toArray, List.set_cons_zero, List.set_cons_succ])); (refine wpAnyT_take (i := 41) (v := ?_) rfl (by kernel_rfl) (by kernel_rfl) (by kernel_rfl) (by kernel_rfl) (by exact fun _ _ _ h => h) (Or.inl ⟨by kernel_rfl, ?_⟩) hS33 ?_; rotate_left 1; focus (intro w hSw; unfold KnS at hSw; (try dsimp only at hSw); go_simp; try with_reducible rfl); (try simp only [List.getElem_toArray, List.getElem_cons_zero, List.getElem_cons_succ, Act.put, List.setIfInBounds_toArray, List.set_cons_zero, List.set_cons_succ])); (refine wpAnyT_take (i := 42) (v := ?_) rfl (by kernel_rfl) (by kernel_rfl) (by kernel_rfl) (by kernel_rfl) (by exact fun _ _ _ h => h) (Or.inl ⟨by kernel_rfl, ?_⟩) hS33 ?_; rotate_left 1; focus (intro w hSw; unfold KnS at hSw; (try dsimp only at hSw); go_simp; try with_reducible rfl); (try simp only [List.getElem_toArray, List.getElem_cons_zero, List.getElem_cons_succ, Act.put, List.setIfInBounds_toArray, List.set_cons_zero, List.set_cons_succ])); (refine wpAnyT_take (i := 43) (v := ?_) rfl (by kernel_rfl) (by kernel_rfl) (by kernel_rfl) (by kernel_rfl) (by exact fun _ _ _ h => h) (Or.inl ⟨by kernel_rfl, ?_⟩) hS33 ?_; rotate_left 1; focus (intro w hSw; unfold KnS at hSw; (try dsimp only at hSw); go_simp; try with_reducible rfl); (try simp only [List.getElem_toArray, List.getElem_cons_zero, List.getElem_cons_succ, Act.put, List.setIfInBounds_toArray, List.set_cons_zero, List.set_cons_succ])); (refine wpAnyT_take (i := 44) (v := ?_) rfl (by kernel_rfl) (by kernel_rfl) (by kernel_rfl) (by kernel_rfl) (by exact fun _ _ _ h => h) (Or.inl ⟨by kernel_rfl, ?_⟩) hS33 ?_; rotate_left 1; focus (intro w hSw; unfold KnS at hSw; (try dsimp only at hSw); go_simp; try with_reducible rfl); (try simp only [List.getElem_toArray, List.getElem_cons_zero, List.getElem_cons_succ, Act.put, List.setIfInBounds_toArray, List.set_cons_zero, List.set_cons_succ])); (refine wpAnyT_take (i := 45) (v := ?_) rfl (by kernel_rfl) (by kernel_rfl) (by kernel_rfl) (by kernel_rfl) (by exact fun _ _ _ h => h) (Or.inl ⟨by kernel_rfl, ?_⟩) hS33 ?_; rotate_left 1; focus (intro w hSw; unfold KnS at hSw; (try dsimp only at hSw); go_simp; try with_reducible rfl); (try simp only [List.getElem_toArray, List.getElem_cons_zero, List.getElem_cons_succ, Act.put, List.setIfInBounds_toArray, List.set_cons_zero, List.set_cons_succ])); (refine wpAnyT_take (i := 46) (v := ?_) rfl (by kernel_rfl) (by kernel_rfl) (by kernel_rfl) (by kernel_rfl) (by exact fun _ _ _ h => h) (Or.inl ⟨by kernel_rfl, ?_⟩) hS33 ?_; rotate_left 1; focus (intro w hSw; unfold KnS at hSw; (try dsimp only at hSw); go_simp; try with_reducible rfl); (try simp only [List.getElem_toArray, List.getElem_cons_zero, List.getElem_cons_succ, Act.put, List.setIfInBounds_toArray, List.set_cons_zero, List.set_cons_succ])); (refine wpAnyT_take (i := 47) (v := ?_) rfl (by kernel_rfl) (by kernel_rfl) (by kernel_rfl) (by kernel_rfl) (by exact fun _ _ _ h => h) (Or.inl ⟨by kernel_rfl, ?_⟩) hS33 ?_; rotate_left 1; focus (intro w hSw; unfold KnS at hSw; (try dsimp only at hSw); go_simp; try with_reducible rfl); (try simp only [List.getElem_toArray, List.getElem_cons_zero, List.getElem_cons_succ, Act.put, List.setIfInBounds_toArray, List.set_cons_zero, List.set_cons_succ])); (refine wpAnyT_take (i := 48) (v := ?_) rfl (by kernel_rfl) (by kernel_rfl) (by kernel_rfl) (by kernel_rfl) (by exact fun _ _ _ h => h) (Or.inl ⟨by kernel_rfl, ?_⟩) hS33 ?_; rotate_left 1; focus (intro w hSw; unfold KnS at hSw; (try dsimp only at hSw); go_simp; try with_reducible rfl); (try simp only [List.getElem_toArray, List.getElem_cons_zero, List.getElem_cons_succ, Act.put, List.setIfInBounds_toArray, List.set_cons_zero, List.set_cons_succ])); (refine wpAnyT_take (i := 49) (v := ?_) rfl (by kernel_rfl) (by kernel_rfl) (by kernel_rfl) (by kernel_rfl) (by exact fun _ _ _ h => h) (Or.inl ⟨by kernel_rfl, ?_⟩) hS33 ?_; rotate_left 1; focus (intro w hSw; unfold KnS at hSw; (try dsimp only at hSw); go_simp; try with_reducible rfl); (try simp only [List.getElem_toArray, List.getElem_cons_zero, List.getElem_cons_succ, Act.put, List.setIfInBounds_toArray, List.set_cons_zero, List.set_cons_succ])))
  refine wpAnyT_one (i := 50) (by kernel_rfl) rfl (fun K hK => ?_)
  go_simp
  refine (hnu.out _).mono ?_
  rintro e wn ⟨rfl, h⟩
  have hB50 := hid (hB33.out.step h)
  clear h hS33
  have hS50 := hS.out _ hB50.out
  (refine hK.out _ _ (fun _ => hS50) (fun _ => ?_); clear hK K; (try simp only [Act.put, List.setIfInBounds_toArray, List.set_cons_zero, List.set_cons_succ]))
  refine wpAnyT_one (i := 51) (by kernel_rfl) rfl (fun K hK => ?_)
  go_simp
  have hB51 := hid (hB50.out.step (below_new wn (.cells #[.int .i64 1, .int .i64 0, .string ByteArray.empty, .slice none 0 0, .slice none 0 0] 25)))
  have hS51 := hS.out _ hB51.out
  (refine hK.out _ _ (fun _ => hS51) (fun _ => ?_); clear hK K; (try simp only [Act.put, List.setIfInBounds_toArray, List.set_cons_zero, List.set_cons_succ]))
  ((refine wpAnyT_take (i := 52) (v := ?_) rfl (by kernel_rfl) (by kernel_rfl) (by kernel_rfl) (by kernel_rfl) (by exact fun _ _ _ h => h) (Or.inl ⟨by kernel_rfl, ?_⟩) hS51 ?_; rotate_left 1; focus (intro w hSw; unfold KnS at hSw; (try dsimp only at hSw); go_simp; try with_reducible rfl); (try simp only [List.getElem_toArray, List.getElem_cons_zero, List.getElem_cons_succ, Act.put, List.setIfInBounds_toArray, List.set_cons_zero, List.set_cons_succ])))
  refine wpAnyT_one (i := 53) (by kernel_rfl) rfl (fun K hK => ?_)
  go_simp
  have hone : RdL (wn.alloc (.cells #[.int .i64 1, .int .i64 0, .string ByteArray.empty, .slice none 0 0, .slice none 0 0] 25)) (Now _) [nullV] (.slice (some ⟨wn.heap.size, 0, none⟩) 1 1) :=
    (rdL_one (w := wn) (S := Now wn) (V := nullV) (t := 25) (rd_flat wn (Now wn) (k := 1) (n := 0) (s := ByteArray.empty) (by unfold I64; omega) (by unfold I64; omega) (by decide)) (Below.refl _ _) (fun _ h => h)).keep (fun b hb => by
      have hs : wn.heap.size < (wn.alloc (.cells #[.int .i64 1, .int .i64 0, .string ByteArray.empty, .slice none 0 0, .slice none 0 0] 25)).heap.size := by simp
      rcases hb with hb | hb
      · exact Nat.lt_trans hb hs
      · subst hb; exact hs) (fun _ _ => rfl)
  refine (rreply_calls 0 0 [nullV] (hr6.out.later hB51.out) hone).mono ?_
  rintro e wr ⟨rfl, h⟩
  have hB53 := hid (hB51.out.step h)
  clear h hone hS51 hS50
  have hS53 := hS.out _ hB53.out
  (refine hK.out _ _ (fun _ => hS53) (fun _ => ?_); clear hK K; (try simp only [Act.put, List.setIfInBounds_toArray, List.set_cons_zero, List.set_cons_succ]))
  ((refine wpAnyT_take (i := 54) (v := ?_) rfl (by kernel_rfl) (by kernel_rfl) (by kernel_rfl) (by kernel_rfl) (by exact fun _ _ _ h => h) (Or.inl ⟨by kernel_rfl, ?_⟩) hS53 ?_; rotate_left 1; focus (intro w hSw; unfold KnS at hSw; (try dsimp only at hSw); go_simp; try with_reducible rfl); (try simp only [List.getElem_toArray, List.getElem_cons_zero, List.getElem_cons_succ, Act.put, List.setIfInBounds_toArray, List.set_cons_zero, List.set_cons_succ])); (refine wpAnyT_take (i := 55) (v := ?_) rfl (by kernel_rfl) (by kernel_rfl) (by kernel_rfl) (by kernel_rfl) (by exact fun _ _ _ h => h) (Or.inl ⟨by kernel_rfl, ?_⟩) hS53 ?_; rotate_left 1; focus (intro w hSw; unfold KnS at hSw; (try dsimp only at hSw); go_simp; try with_reducible rfl); (try simp only [List.getElem_toArray, List.getElem_cons_zero, List.getElem_cons_succ, Act.put, List.setIfInBounds_toArray, List.set_cons_zero, List.set_cons_succ])); (refine wpAnyT_take (i := 56) (v := ?_) rfl (by kernel_rfl) (by kernel_rfl) (by kernel_rfl) (by kernel_rfl) (by exact fun _ _ _ h => h) (Or.inl ⟨by kernel_rfl, ?_⟩) hS53 ?_; rotate_left 1; focus (intro w hSw; unfold KnS at hSw; (try dsimp only at hSw); go_simp; try with_reducible rfl); (try simp only [List.getElem_toArray, List.getElem_cons_zero, List.getElem_cons_succ, Act.put, List.setIfInBounds_toArray, List.set_cons_zero, List.set_cons_succ])); (refine wpAnyT_take (i := 57) (v := ?_) rfl (by kernel_rfl) (by kernel_rfl) (by kernel_rfl) (by kernel_rfl) (by exact fun _ _ _ h => h) (Or.inl ⟨by kernel_rfl, ?_⟩) hS53 ?_; rotate_left 1; focus (intro w hSw; unfold KnS at hSw; (try dsimp only at hSw); go_simp; try with_reducible rfl); (try simp only [List.getElem_toArray, List.getElem_cons_zero, List.getElem_cons_succ, Act.put, List.setIfInBounds_toArray, List.set_cons_zero, List.set_cons_succ])); (refine wpAnyT_take (i := 58) (v := ?_) rfl (by kernel_rfl) (by kernel_rfl) (by kernel_rfl) (by kernel_rfl) (by exact fun _ _ _ h => h) (Or.inl ⟨by kernel_rfl, ?_⟩) hS53 ?_; rotate_left 1; focus (intro w hSw; unfold KnS at hSw; (try dsimp only at hSw); go_simp; try with_reducible rfl); (try simp only [List.getElem_toArray, List.getElem_cons_zero, List.getElem_cons_succ, Act.put, List.setIfInBounds_toArray, List.set_cons_zero, List.set_cons_succ])); (refine wpAnyT_take (i := 59) (v := ?_) rfl (by kernel_rfl) (by kernel_rfl) (by kernel_rfl) (by kernel_rfl) (by exact fun _ _ _ h => h) (Or.inl ⟨by kernel_rfl, ?_⟩) hS53 ?_; rotate_left 1; focus (intro w hSw; unfold KnS at hSw; (try dsimp only at hSw); go_simp; try with_reducible rfl); (try simp only [List.getElem_toArray, List.getElem_cons_zero, List.getElem_cons_succ, Act.put, List.setIfInBounds_toArray, List.set_cons_zero, List.set_cons_succ])))
  refine wpAnyT_done (by kernel_rfl) ?_ _
  go_wp2_with fail
  go_ret
  exact ⟨by kernel_rfl, D.out.step hB53.out⟩
end Go.Proofs.YtihcegakghmdfaaDoor
