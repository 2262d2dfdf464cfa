/-
  Walk: the law ValueLimits.
-/
import Derived.Test.YtdjegpmjhfbamaaDoorVal13
namespace Go.Proofs.YtdjegpmjhfbamaaDoor
open Go.RowKit Go.Proofs

theorem and_mask (n : Int) (m : Nat) (hm : m < 4611686018427387904) : ∃ k : Nat, bits .and .i64 n m = (k : Int) ∧ k ≤ m := by
  refine ⟨(BitVec.ofInt 64 n &&& BitVec.ofInt 64 m).toNat, ?_, ?_⟩
  · have h : (BitVec.ofInt 64 n &&& BitVec.ofInt 64 m).toNat ≤ m := by
      rw [BitVec.toNat_and]
      refine Nat.le_trans Nat.and_le_right ?_
      rw [BitVec.ofInt_natCast, BitVec.toNat_ofNat]
      exact Nat.mod_le _ _
    show IntKind.i64.wrap ((BitVec.ofInt 64 n &&& BitVec.ofInt 64 m).toNat : Int) = _
    rw [IntKind.wrap_i64]
    generalize (BitVec.ofInt 64 n &&& BitVec.ofInt 64 m).toNat = k at *
    omega
  · rw [BitVec.toNat_and]
    refine Nat.le_trans Nat.and_le_right ?_
    rw [BitVec.ofInt_natCast, BitVec.toNat_ofNat]
    exact Nat.mod_le _ _

theorem box_at {w : World} {g : Nat} {cs : Array Value} {t : TypeId} (h : w.heap[g]? = some (.cells cs t (0, 0))) {j : Nat} {v : Value} (hj : cs[j]? = some v) : w.cell? ⟨g, j, none⟩ = some v := by
  rw [cell_of_row _ _ _ _ _ _ h]; exact hj
theorem box_free {w : World} {g : Nat} {cs : Array Value} {t : TypeId} (h : w.heap[g]? = some (.cells cs t (0, 0))) (j : Nat) : w.frozen? ⟨g, j, none⟩ = false := by
  simp [World.frozen?, h]

theorem row_setCell {w : World} {g j : Nat} {cs : Array Value} {u : Value} {t : TypeId} (h : w.heap[g]? = some (.cells cs t (0, 0))) : (w.setCell ⟨g, j, none⟩ u).heap[g]? = some (.cells (cs.setIfInBounds j u) t (0, 0)) := by
  have hlt := lt_of_block h
  have h' : w.heap[g] = .cells cs t (0, 0) := by simpa [Array.getElem?_eq_getElem hlt] using h
  show (w.heap.modify g _)[g]? = _
  rw [Array.getElem?_eq_getElem (by simpa using hlt), Array.getElem_modify_self, h']
  rfl
/-- Five cells of a block set. -/
def set5 (w : World) (g : Nat) (u0 u1 u2 u3 u4 : Value) : World :=
  ((((w.setCell ⟨g, 0, none⟩ u0).setCell ⟨g, 1, none⟩ u1).setCell ⟨g, 2, none⟩ u2).setCell ⟨g, 3, none⟩ u3).setCell ⟨g, 4, none⟩ u4
theorem set5_box {w : World} {g : Nat} {v0 v1 v2 v3 v4 u0 u1 u2 u3 u4 : Value} {t : TypeId} (h : w.heap[g]? = some (.cells #[v0, v1, v2, v3, v4] t (0, 0))) :
    (set5 w g u0 u1 u2 u3 u4).heap[g]? = some (.cells #[u0, u1, u2, u3, u4] t (0, 0)) :=
  row_setCell (row_setCell (row_setCell (row_setCell (row_setCell h))))
theorem set5_size (w : World) (g : Nat) (u0 u1 u2 u3 u4 : Value) : (set5 w g u0 u1 u2 u3 u4).heap.size = w.heap.size := by simp [set5, World.setCell]
theorem set5_below {B g : Nat} {a w : World} (h : Below B a w) (hg : B ≤ g) (u0 u1 u2 u3 u4 : Value) : Below B a (set5 w g u0 u1 u2 u3 u4) :=
  ((((h.setCell (p := ⟨g, 0, none⟩) hg u0).setCell (p := ⟨g, 1, none⟩) hg u1).setCell (p := ⟨g, 2, none⟩) hg u2).setCell (p := ⟨g, 3, none⟩) hg u3).setCell (p := ⟨g, 4, none⟩) hg u4
theorem set5_other (w : World) (g : Nat) (u0 u1 u2 u3 u4 : Value) {b : Nat} (h : b ≠ g) : (set5 w g u0 u1 u2 u3 u4).heap[b]? = w.heap[b]? := by
  unfold set5
  rw [Below.heap_setCell _ _ _ _ h, Below.heap_setCell _ _ _ _ h, Below.heap_setCell _ _ _ _ h, Below.heap_setCell _ _ _ _ h, Below.heap_setCell _ _ _ _ h]

set_option maxRecDepth 100000 in
set_option maxHeartbeats 1000000 in
theorem limits_calls (n way : Int) (w : World) (hT : Tabs w) : Calls Tryd.prog 11 #[.int .i64 n, .int .i64 way] w fun e w' => e = .returned (.bool true) ∧ Below w.heap.size w w' := by
  have hT := hid hT
  have ha := hid awake_calls
  have hi := hid (fun w => int_calls 1 w)
  obtain ⟨k, hk0, hk63⟩ := and_mask n 63 (by decide)
  obtain ⟨m, hm0, hm3⟩ := and_mask way 3 (by decide)
  have hk : bits .and .i64 n 63 = (k : Int) := hk0
  have hm : bits .and .i64 way 3 = (m : Int) := hm0
  clear hk0 hm0
  obtain rfl | rfl | rfl | rfl : m = 0 ∨ m = 1 ∨ m = 2 ∨ m = 3 := by omega
  · go_enter Tryd.func11, Tryd.ntmps11
    go_wp2_with fail
    refine (ha.out _ hT.out).mono ?_
    rintro e w1 ⟨rfl, h1⟩
    go_wp2_with fail
    refine (hi.out _).mono ?_
    rintro e w2 ⟨rfl, h2⟩
    have hb2 := hid (h1.step h2)
    go_wp2_with fail
    clear hm hk
    go_loopg [8] k (fun g i wr => ∃ j : Nat, g + j = k ∧ i = .int .i64 j ∧ ∃ v0 v1 v2 v3 v4, wr.heap[w2.heap.size]? = some (.cells #[v0, v1, v2, v3, v4] 52 (0, 0)) ∧
      Rd wr (fun b => b < wr.heap.size ∧ b ≠ w2.heap.size) (nest j) [v0, v1, v2, v3, v4] ∧ Below w2.heap.size w2 wr ∧ w2.heap.size < wr.heap.size)
    case atStart =>
      exact ⟨0, by omega, rfl, _, _, _, _, _, heap_alloc_new w2 _, rd_flat _ _ ⟨by decide, by decide⟩ ⟨by decide, by decide⟩ (by decide), below_new _ _, by simp⟩
    case round =>
      obtain ⟨j, hj, rfl, v0, v1, v2, v3, v4, hbox, hr, hbr, hlt0⟩ := hrel
      have hL := hid (fun (w : World) (la : Option Addr) => list_calls la 1 1 w)
      have c0 := box_at (j := 0) hbox rfl
      have c1 := box_at (j := 1) hbox rfl
      have c2 := box_at (j := 2) hbox rfl
      have c3 := box_at (j := 3) hbox rfl
      have c4 := box_at (j := 4) hbox rfl
      by_cases hlt : j < k
      · go_wp2_with fail
        refine (hL.out _ _).mono ?_
        rintro e w3 ⟨rfl, h3⟩
        have hb3 := hid ((below_new wr _).step h3)
        have hbox3 := (hb3.out.block _ hlt0).trans hbox
        clear c0 c1 c2 c3 c4
        have c0 := box_at (j := 0) hbox3 rfl
        have c1 := box_at (j := 1) hbox3 rfl
        have c2 := box_at (j := 2) hbox3 rfl
        have c3 := box_at (j := 3) hbox3 rfl
        have c4 := box_at (j := 4) hbox3 rfl
        have f0 := box_free hbox3 0
        have f1 := box_free hbox3 1
        have f2 := box_free hbox3 2
        have f3 := box_free hbox3 3
        have f4 := box_free hbox3 4
        have hbox3 := hid hbox3
        go_wp2_with fail
        go_roundg (k - (j + 1))
        case measure => omega
        case rel =>
          have hL1 := rdL_one hr h3 (fun b h => h.1)
          have hs3 : wr.heap.size + 1 ≤ w3.heap.size := by have := h3.size; simpa using this
          exact ⟨j + 1, by omega, by go_num, _, _, _, _, _, set5_box hbox3.out, (rd_list hL1).keep (fun b h => ⟨by show b < (set5 w3 w2.heap.size _ _ _ _ _).heap.size; rw [set5_size]; omega, by omega⟩) (fun b h => set5_other w3 _ _ _ _ _ _ (by omega)),
            set5_below (hbr.trans (hb3.out.mono hbr.size)) (Nat.le_refl _) _ _ _ _ _, by show _ < (set5 w3 w2.heap.size _ _ _ _ _).heap.size; rw [set5_size]; omega⟩
      · obtain rfl : j = k := by omega
        have hG := hid (fun (w' : World) (hT : Tabs w') (hV : Rd w' (Now w') (nest j) [v0, v1, v2, v3, v4]) => good_calls (nest j) w' _ (by rw [nodes_nest]; omega) hT hV)
        rw [good_nest j (by omega)] at hG
        have hb : Hid (Below w.heap.size w wr) := hb2.out.trans (hbr.mono hb2.out.size)
        by_cases h8 : 8 < j
        · rw [if_pos h8] at hG
          go_wp2_with fail
          refine (hG.out _ (Tabs.stays _ _ hT.out hb.out) (hr.keep (fun b h => h.1) (fun _ _ => rfl))).mono ?_
          rintro e w4 ⟨rfl, h4⟩
          go_wp2_with fail
          go_ret
          exact ⟨rfl, hb.out.step h4⟩
        · rw [if_neg h8] at hG
          go_wp2_with fail
          refine (hG.out _ (Tabs.stays _ _ hT.out hb.out) (hr.keep (fun b h => h.1) (fun _ _ => rfl))).mono ?_
          rintro e w4 ⟨rfl, h4⟩
          go_wp2_with fail
          go_ret
          exact ⟨rfl, hb.out.step h4⟩
  · have hM := hid (fun w => many_calls k (by omega) w)
    have hL := hid (fun (w : World) (la : Option Addr) c => list_calls la k c w)
    have hG := hid (fun (w' : World) cs (hT : Tabs w') (hV : Rd w' (Now w') (listV (List.replicate k nullV)) cs) => good_calls (listV (List.replicate k nullV)) w' cs (by rw [nodes_many]; omega) hT hV)
    rw [good_many k (by omega)] at hG
    go_enter Tryd.func11, Tryd.ntmps11
    go_wp2_with fail
    refine (ha.out _ hT.out).mono ?_
    rintro e w1 ⟨rfl, h1⟩
    go_wp2_with fail
    refine (hi.out _).mono ?_
    rintro e w2 ⟨rfl, h2⟩
    have hb2 := hid (h1.step h2)
    have hbox := hid (heap_alloc_new w2 (.cells #[.int .i64 3, .int .i64 1, .string ByteArray.empty, .slice none 0 0, .slice none 0 0] 52))
    go_wp2_with fail
    clear hm hk
    refine (hM.out _).mono ?_
    rintro e w3 ⟨la, cap, rfl, hrL, h3⟩
    go_wp2_with fail
    refine (hL.out _ _ _).mono ?_
    rintro e w4 ⟨rfl, h4⟩
    have hb4 := hid (h3.step h4)
    have hbox3 := (hb4.out.block w2.heap.size (by simp)).trans hbox.out
    have c0 := box_at (j := 0) hbox3 rfl
    have c1 := box_at (j := 1) hbox3 rfl
    have c2 := box_at (j := 2) hbox3 rfl
    have c3 := box_at (j := 3) hbox3 rfl
    have c4 := box_at (j := 4) hbox3 rfl
    have f0 := box_free hbox3 0
    have f1 := box_free hbox3 1
    have f2 := box_free hbox3 2
    have f3 := box_free hbox3 3
    have f4 := box_free hbox3 4
    have hbox3 := hid hbox3
    have hs3 : w2.heap.size + 1 ≤ w3.heap.size := by have := h3.size; simpa using this
    have hs4 := h4.size
    have hrd : Hid (∀ u0 u1 u2 u3 u4, Rd (set5 w4 w2.heap.size u0 u1 u2 u3 u4) (Now (set5 w4 w2.heap.size u0 u1 u2 u3 u4)) (listV (List.replicate k nullV)) [.int .i64 5, .int .i64 0, .string ByteArray.empty, .slice la k cap, .slice none 0 0]) := fun u0 u1 u2 u3 u4 => by
      have h := rd_list (l := List.replicate k nullV) (la := la) (c := cap) (by rw [List.length_replicate]; exact hrL)
      rw [List.length_replicate] at h
      refine h.keep (fun b hb => ?_) (fun b hb => ?_)
      · show b < (set5 w4 _ _ _ _ _ _).heap.size
        rw [set5_size]; omega
      · rw [set5_other _ _ _ _ _ _ _ (by simp at hb; omega)]
        exact h4.block b hb.2
    have hbb : Hid (∀ u0 u1 u2 u3 u4, Below w.heap.size w (set5 w4 w2.heap.size u0 u1 u2 u3 u4)) := fun u0 u1 u2 u3 u4 => set5_below ((hb2.out.step (below_new w2 _)).step hb4.out) (hb2.out.size) _ _ _ _ _
    by_cases h32 : 32 < k
    · rw [if_pos h32] at hG
      go_wp2_with fail
      refine (hG.out _ _ (Tabs.stays _ _ hT.out (hbb.out _ _ _ _ _)) (hrd.out _ _ _ _ _)).mono ?_
      rintro e w5 ⟨rfl, h5⟩
      go_wp2_with fail
      go_ret
      exact ⟨rfl, (hbb.out _ _ _ _ _).step h5⟩
    · rw [if_neg h32] at hG
      go_wp2_with fail
      refine (hG.out _ _ (Tabs.stays _ _ hT.out (hbb.out _ _ _ _ _)) (hrd.out _ _ _ _ _)).mono ?_
      rintro e w5 ⟨rfl, h5⟩
      go_wp2_with fail
      go_ret
      exact ⟨rfl, (hbb.out _ _ _ _ _).step h5⟩
  · have hLo := hid (fun w => long_calls k (by omega) w)
    have hG := hid (fun (w' : World) cs (hT : Tabs w') (hV : Rd w' (Now w') (docV (longS k) (intV 1)) cs) => good_calls (docV (longS k) (intV 1)) w' cs (by simp [docV, intV, PVal.nodes, nodesL]) hT hV)
    rw [good_named (longS k) (by rw [longS_size]; omega) (utf_long k), longS_size] at hG
    have hD := hid (fun (w : World) (hw : 0 ≤ w.heap.size) => doc_calls (longS k) (intV 1) (fun _ => False) w _ (by rw [longS_size]; omega) (rd_flat _ _ ⟨by decide, by decide⟩ ⟨by decide, by decide⟩ (by decide)) (fun _ h => h.elim))
    generalize longS k = ls at *
    go_enter Tryd.func11, Tryd.ntmps11
    go_wp2_with fail
    refine (ha.out _ hT.out).mono ?_
    rintro e w1 ⟨rfl, h1⟩
    go_wp2_with fail
    refine (hi.out _).mono ?_
    rintro e w2 ⟨rfl, h2⟩
    have hb2 := hid (h1.step h2)
    have hbox := hid (heap_alloc_new w2 (.cells #[.int .i64 3, .int .i64 1, .string ByteArray.empty, .slice none 0 0, .slice none 0 0] 52))
    have A0 := Later.cell (box_at (j := 0) hbox.out rfl)
    have A1 := Later.cell (box_at (j := 1) hbox.out rfl)
    have A2 := Later.cell (box_at (j := 2) hbox.out rfl)
    have A3 := Later.cell (box_at (j := 3) hbox.out rfl)
    have A4 := Later.cell (box_at (j := 4) hbox.out rfl)
    go_wp2_with fail
    refine wp_later_tail 3 (by kernel_rfl) (by kernel_rfl) ?_
    simp only [List.take_succ_cons, List.take_zero, List.drop_succ_cons, List.drop_zero]
    repeat (go_big_quiet_step ((go_at_call 37; exact later_same _ (hLo.out _))))
    refine wpQuiet_nil ?_
    intro _ hw'
    obtain ⟨p, hp⟩ := hw'
    subst hp
    clear A0 A1 A2 A3 A4 hm hk
    go_wp2_with fail
    refine (hD.out _ (Nat.zero_le _)).mono ?_
    rintro e w4 ⟨fa, fc, rfl, hrD, h4⟩
    have hb4 := hid (p.h.trans (h4.mono p.h.size))
    have hbox3 := (hb4.out.block w2.heap.size (by simp)).trans hbox.out
    have c0 := box_at (j := 0) hbox3 rfl
    have c1 := box_at (j := 1) hbox3 rfl
    have c2 := box_at (j := 2) hbox3 rfl
    have c3 := box_at (j := 3) hbox3 rfl
    have c4 := box_at (j := 4) hbox3 rfl
    have f0 := box_free hbox3 0
    have f1 := box_free hbox3 1
    have f2 := box_free hbox3 2
    have f3 := box_free hbox3 3
    have f4 := box_free hbox3 4
    have hbox3 := hid hbox3
    have hs3 : w2.heap.size + 1 ≤ p.x.heap.size := by have := p.h.size; simpa using this
    have hs4 := h4.size
    have hrd : Hid (∀ u0 u1 u2 u3 u4, Rd (set5 w4 w2.heap.size u0 u1 u2 u3 u4) (Now (set5 w4 w2.heap.size u0 u1 u2 u3 u4)) (docV ls (intV 1)) [.int .i64 6, .int .i64 0, .string ByteArray.empty, .slice none 0 0, .slice fa 1 fc]) := fun u0 u1 u2 u3 u4 => by
      refine hrD.keep (fun b hb => ?_) (fun b hb => ?_)
      · show b < (set5 w4 _ _ _ _ _ _).heap.size
        rw [set5_size]
        rcases hb with hb | hb
        · exact hb.elim
        · exact hb.2
      · rw [set5_other _ _ _ _ _ _ _ (by
          rcases hb with hb | hb
          · exact hb.elim
          · omega)]
    have hbb : Hid (∀ u0 u1 u2 u3 u4, Below w.heap.size w (set5 w4 w2.heap.size u0 u1 u2 u3 u4)) := fun u0 u1 u2 u3 u4 => set5_below ((hb2.out.step (below_new w2 _)).step hb4.out) (hb2.out.size) _ _ _ _ _
    by_cases h1 : k < 1
    · rw [if_pos (.inl h1)] at hG
      go_wp2_with fail
      refine (hG.out _ _ (Tabs.stays _ _ hT.out (hbb.out _ _ _ _ _)) (hrd.out _ _ _ _ _)).mono ?_
      rintro e w5 ⟨rfl, h5⟩
      go_wp2_with fail
      go_ret
      exact ⟨rfl, (hbb.out _ _ _ _ _).step h5⟩
    by_cases h24 : 24 < k
    · rw [if_pos (.inr h24)] at hG
      go_wp2_with fail
      refine (hG.out _ _ (Tabs.stays _ _ hT.out (hbb.out _ _ _ _ _)) (hrd.out _ _ _ _ _)).mono ?_
      rintro e w5 ⟨rfl, h5⟩
      go_wp2_with fail
      go_ret
      exact ⟨rfl, (hbb.out _ _ _ _ _).step h5⟩
    · rw [if_neg (by omega)] at hG
      go_wp2_with fail
      refine (hG.out _ _ (Tabs.stays _ _ hT.out (hbb.out _ _ _ _ _)) (hrd.out _ _ _ _ _)).mono ?_
      rintro e w5 ⟨rfl, h5⟩
      go_wp2_with fail
      go_ret
      exact ⟨rfl, (hbb.out _ _ _ _ _).step h5⟩
  · have hLo := hid (fun w => long_calls (2013 + k) (by omega) w)
    have hG := hid (fun (w' : World) cs (hT : Tabs w') (hV : Rd w' (Now w') (textV (longS (2013 + k))) cs) => good_calls (textV (longS (2013 + k))) w' cs (by simp [textV, PVal.nodes, nodesL]) hT hV)
    rw [good_text (longS (2013 + k)) (by rw [longS_size]; omega), utf_long, longS_size] at hG
    have hsz := longS_size (2013 + k)
    have hX := hid (fun w => text_calls (longS (2013 + k)) w)
    generalize longS (2013 + k) = ls at *
    have hlk : ((2013 + k : Nat) : Int) = 2013 + (k : Int) := by omega
    rw [hlk] at hLo
    have hwk : wrap64 (2013 + (k : Int)) = 2013 + (k : Int) := by unfold wrap64; omega
    go_enter Tryd.func11, Tryd.ntmps11
    go_wp2_with fail
    refine (ha.out _ hT.out).mono ?_
    rintro e w1 ⟨rfl, h1⟩
    go_wp2_with fail
    refine (hi.out _).mono ?_
    rintro e w2 ⟨rfl, h2⟩
    have hb2 := hid (h1.step h2)
    have hbox := hid (heap_alloc_new w2 (.cells #[.int .i64 3, .int .i64 1, .string ByteArray.empty, .slice none 0 0, .slice none 0 0] 52))
    go_wp2_with fail
    clear hm hk
    refine (hLo.out _).mono ?_
    rintro e w3 ⟨rfl, rfl⟩
    go_wp2_with fail
    refine (hX.out _).mono ?_
    rintro e w4 ⟨rfl, h4⟩
    have hb4 := hid h4
    have hbox3 := (hb4.out.block w2.heap.size (by simp)).trans hbox.out
    have c0 := box_at (j := 0) hbox3 rfl
    have c1 := box_at (j := 1) hbox3 rfl
    have c2 := box_at (j := 2) hbox3 rfl
    have c3 := box_at (j := 3) hbox3 rfl
    have c4 := box_at (j := 4) hbox3 rfl
    have f0 := box_free hbox3 0
    have f1 := box_free hbox3 1
    have f2 := box_free hbox3 2
    have f3 := box_free hbox3 3
    have f4 := box_free hbox3 4
    have hbox3 := hid hbox3
    have hrd : Hid (∀ u0 u1 u2 u3 u4, Rd (set5 w4 w2.heap.size u0 u1 u2 u3 u4) (Now (set5 w4 w2.heap.size u0 u1 u2 u3 u4)) (textV ls) [.int .i64 4, .int .i64 0, .string ls, .slice none 0 0, .slice none 0 0]) := fun u0 u1 u2 u3 u4 =>
      rd_flat _ _ ⟨by decide, by decide⟩ ⟨by decide, by decide⟩ (by omega)
    have hbb : Hid (∀ u0 u1 u2 u3 u4, Below w.heap.size w (set5 w4 w2.heap.size u0 u1 u2 u3 u4)) := fun u0 u1 u2 u3 u4 => set5_below ((hb2.out.step (below_new w2 _)).step hb4.out) (hb2.out.size) _ _ _ _ _
    by_cases h20 : 2013 + k ≤ 2045
    · rw [if_neg (by decide), if_pos h20] at hG
      go_wp2_with fail
      refine (hG.out _ _ (Tabs.stays _ _ hT.out (hbb.out _ _ _ _ _)) (hrd.out _ _ _ _ _)).mono ?_
      rintro e w5 ⟨rfl, h5⟩
      go_wp2_with fail
      go_ret
      exact ⟨rfl, (hbb.out _ _ _ _ _).step h5⟩
    · rw [if_neg (by decide), if_neg h20] at hG
      go_wp2_with fail
      refine (hG.out _ _ (Tabs.stays _ _ hT.out (hbb.out _ _ _ _ _)) (hrd.out _ _ _ _ _)).mono ?_
      rintro e w5 ⟨rfl, h5⟩
      go_wp2_with fail
      go_ret
      exact ⟨rfl, (hbb.out _ _ _ _ _).step h5⟩
end Go.Proofs.YtdjegpmjhfbamaaDoor
