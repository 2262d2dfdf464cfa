/-
  Walks: the reference's shape.
-/
import Derived.Test.YthjihdpleclejaaGreatDoorMgRef2
namespace Go.Proofs.YthjihdpleclejaaGreatDoor
open Go.RowKit Go.Proofs
set_option maxRecDepth 100000 in
set_option maxHeartbeats 8000000 in
theorem shape_calls : ∀ (V : PVal) (w : World) (cs : List Value), Rd w (Now w) V cs →
  Calls Tryz.prog 58 #[.agg cs.toArray] w fun e w' => e = .returned (.bool (V.all formedB)) ∧ Below w.heap.size w w' := by
 intro V
 induction hN : V.nodes using Nat.strongRecOn generalizing V with
 | _ N ih =>
 subst hN
 intro w cs hV
 have hd := all_parts formedB V
 have hp := hid (fun w cs h => rparts_calls V w cs h)
 have hpn := nodes_parts V
 have hV0 := hid hV
 obtain ⟨O, hO⟩ : ∃ O, O = formedB V := ⟨_, rfl⟩
 rw [← hO] at hd
 generalize V.parts = ps at *
 generalize V.all formedB = A at *
 replace hd := hid hd
 obtain ⟨k, n, s, l, fn, fv⟩ := V
 obtain ⟨la, lc, fa, fc, rfl, hk, hn, hs, hlc, hlm, hfc, hfm, hL, hF⟩ := hV.inv
 have hfl := hid hF.1
 have hF0 := hid hF
 replace hO := hid hO
 have hFalse : Hid (O = false → A = false) := fun h => by rw [hd.out, h]; rfl
 rw [formed_head] at hO
 obtain ⟨B, hB⟩ : ∃ B, B = headB k n s l.length fv.length := ⟨_, rfl⟩
 rw [← hB] at hO
 replace hO := hid hO
 have hBf : Hid (∀ b, headB k n s l.length fv.length = b → B = b) := fun b h => hB.trans h
 clear hB
 have hlim := hF.lim
 go_enter Tryz.func58, Tryz.ntmps58
 go_upto_region 1 with fail
 have A0 : (w.alloc (.cells #[.int .i64 k, .int .i64 n, .string s, .slice la l.length lc, .slice fa fv.length fc] 25)).cell? ⟨w.heap.size, 0, none⟩ = some (.int .i64 k) := box_cell (Below.refl _ _) rfl
 have A1 : (w.alloc (.cells #[.int .i64 k, .int .i64 n, .string s, .slice la l.length lc, .slice fa fv.length fc] 25)).cell? ⟨w.heap.size, 1, none⟩ = some (.int .i64 n) := box_cell (Below.refl _ _) rfl
 have A2 : (w.alloc (.cells #[.int .i64 k, .int .i64 n, .string s, .slice la l.length lc, .slice fa fv.length fc] 25)).cell? ⟨w.heap.size, 2, none⟩ = some (.string s) := box_cell (Below.refl _ _) rfl
 have A3 : (w.alloc (.cells #[.int .i64 k, .int .i64 n, .string s, .slice la l.length lc, .slice fa fv.length fc] 25)).cell? ⟨w.heap.size, 3, none⟩ = some (.slice la l.length lc) := box_cell (Below.refl _ _) rfl
 have A4 : (w.alloc (.cells #[.int .i64 k, .int .i64 n, .string s, .slice la l.length lc, .slice fa fv.length fc] 25)).cell? ⟨w.heap.size, 4, none⟩ = some (.slice fa fv.length fc) := box_cell (Below.refl _ _) rfl
 refine wp_via (fun v => { tmps := #[.agg #[.int .i64 k, .int .i64 n, .string s, .slice la l.length lc, .slice fa fv.length fc], .pointer (some ⟨w.heap.size, 0, none⟩), .bool false, undef, undef, undef, v 6, v 7, v 8, v 9, v 10, v 11, v 12, v 13, v 14, v 15, v 16, v 17, v 18, v 19, v 20, v 21, v 22, v 23, v 24, v 25, v 26, v 27, v 28, v 29, v 30, v 31, v 32, v 33, v 34, v 35, v 36, v 37, v 38, v 39, v 40, v 41, v 42, v 43, v 44, v 45, v 46, v 47, v 48, v 49, v 50, v 51, v 52, v 53, v 54, v 55, v 56, v 57, v 58, v 59, v 60, v 61, v 62, v 63, v 64, v 65, v 66, v 67, v 68, v 69, v 70, v 71, v 72, v 73, v 74, .bool (!B), undef, undef, undef, undef, undef, undef, undef, undef, undef, undef, undef, undef, undef, undef, undef, undef, undef, undef, undef, undef, undef, undef, undef, undef, undef, undef, undef, undef, undef, undef, undef, undef, undef, undef, undef], defers := [] }) ?_ ?_
 ·clear hd hp hpn hV0 hV hL hF hF0 hO hfl hFalse hlim ih hs hlc hlm hfc hfm
  generalize hw0 : (w.alloc (.cells #[.int .i64 k, .int .i64 n, .string s, .slice la l.length lc, .slice fa fv.length fc] 25)) = w0 at *
  clear hw0
  generalize l.length = ll at *
  generalize fv.length = fl at *
  by_cases h1 : k < 1
  ·have hb : Hid (B = false) := hBf.out _ (by simp [headB]; omega)
   refine wp_seq_quiet ?_
   simp only [List.append_eq, List.cons_append, List.nil_append]
   repeat (go_big_quiet_step (fail))
   refine wpQuiet_nil ?_
   exact ⟨by first | rfl | trivial, by first | rfl | trivial, via_mk _ _ (by rw [hb.out]; rfl)⟩
  by_cases h7 : 6 < k
  ·have hb : Hid (B = false) := hBf.out _ (by simp [headB]; omega)
   refine wp_seq_quiet ?_
   simp only [List.append_eq, List.cons_append, List.nil_append]
   repeat (go_big_quiet_step (fail))
   refine wpQuiet_nil ?_
   exact ⟨by first | rfl | trivial, by first | rfl | trivial, via_mk _ _ (by rw [hb.out]; rfl)⟩
  have hk6 : k = 1 ∨ k = 2 ∨ k = 3 ∨ k = 4 ∨ k = 5 ∨ k = 6 := by omega
  clear h1 h7
  rcases hk6 with rfl | rfl | rfl | rfl | rfl | rfl
  ·by_cases n0 : n = 0
   case neg =>
    have b0 : (n != 0) = true := by simp [n0]
    have hb : Hid (B = false) := hBf.out _ (by simp [headB]; omega)
    refine wp_seq_quiet ?_
    simp only [List.append_eq, List.cons_append, List.nil_append]
    repeat (go_big_quiet_step (fail))
    refine wpQuiet_nil ?_
    exact ⟨by first | rfl | trivial, by first | rfl | trivial, via_mk _ _ (by rw [hb.out]; rfl)⟩
   subst n0
   by_cases s0 : s.toList.isEmpty = true
   case neg =>
    have b2 : s.toList.isEmpty = false := by simpa using s0
    have hb : Hid (B = false) := hBf.out _ (by
     have : ¬ s.toList = [] := by simpa using s0
     simp [headB, this])
    refine wp_seq_quiet ?_
    simp only [List.append_eq, List.cons_append, List.nil_append]
    repeat (go_big_quiet_step (fail))
    refine wpQuiet_nil ?_
    exact ⟨by first | rfl | trivial, by first | rfl | trivial, via_mk _ _ (by rw [hb.out]; rfl)⟩
   have s1 : Hid (s.toList = []) := by show _ = _; simpa using s0
   by_cases l0 : ll = 0
   case neg =>
    have b3 : 0 < ll := by omega
    have hb : Hid (B = false) := hBf.out _ (by simp [headB, l0])
    replace l0 := hid l0
    refine wp_seq_quiet ?_
    simp only [List.append_eq, List.cons_append, List.nil_append]
    repeat (go_big_quiet_step (fail))
    refine wpQuiet_nil ?_
    exact ⟨by first | rfl | trivial, by first | rfl | trivial, via_mk _ _ (by rw [hb.out]; rfl)⟩
   subst l0
   by_cases f0 : fl = 0
   case neg =>
    have b4 : 0 < fl := by omega
    have hb : Hid (B = false) := hBf.out _ (by simp [headB, f0])
    replace f0 := hid f0
    refine wp_seq_quiet ?_
    simp only [List.append_eq, List.cons_append, List.nil_append]
    repeat (go_big_quiet_step (fail))
    refine wpQuiet_nil ?_
    exact ⟨by first | rfl | trivial, by first | rfl | trivial, via_mk _ _ (by rw [hb.out]; rfl)⟩
   subst f0
   have hb : Hid (B = true) := hBf.out _ (by simp [headB, s1.out])
   refine wp_seq_quiet ?_
   simp only [List.append_eq, List.cons_append, List.nil_append]
   repeat (go_big_quiet_step (fail))
   refine wpQuiet_nil ?_
   exact ⟨by first | rfl | trivial, by first | rfl | trivial, via_mk _ _ (by rw [hb.out]; rfl)⟩
  ·by_cases n0 : n = 0 ∨ n = 1
   case neg =>
    have b0 : (n != 0) = true := by simp; omega
    have b1 : (n != 1) = true := by simp; omega
    have hb : Hid (B = false) := hBf.out _ (by simp [headB]; intro h; exact absurd h n0)
    refine wp_seq_quiet ?_
    simp only [List.append_eq, List.cons_append, List.nil_append]
    repeat (go_big_quiet_step (fail))
    refine wpQuiet_nil ?_
    exact ⟨by first | rfl | trivial, by first | rfl | trivial, via_mk _ _ (by rw [hb.out]; rfl)⟩
   rcases n0 with rfl | rfl
   all_goals
    by_cases s0 : s.toList.isEmpty = true
    case neg =>
     have b2 : s.toList.isEmpty = false := by simpa using s0
     have hb : Hid (B = false) := hBf.out _ (by
      have : ¬ s.toList = [] := by simpa using s0
      simp [headB, this])
     refine wp_seq_quiet ?_
     simp only [List.append_eq, List.cons_append, List.nil_append]
     repeat (go_big_quiet_step (fail))
     refine wpQuiet_nil ?_
     exact ⟨by first | rfl | trivial, by first | rfl | trivial, via_mk _ _ (by rw [hb.out]; rfl)⟩
    have s1 : Hid (s.toList = []) := by show _ = _; simpa using s0
    by_cases l0 : ll = 0
    case neg =>
     have b3 : 0 < ll := by omega
     have hb : Hid (B = false) := hBf.out _ (by simp [headB, l0])
     replace l0 := hid l0
     refine wp_seq_quiet ?_
     simp only [List.append_eq, List.cons_append, List.nil_append]
     repeat (go_big_quiet_step (fail))
     refine wpQuiet_nil ?_
     exact ⟨by first | rfl | trivial, by first | rfl | trivial, via_mk _ _ (by rw [hb.out]; rfl)⟩
    subst l0
    by_cases f0 : fl = 0
    case neg =>
     have b4 : 0 < fl := by omega
     have hb : Hid (B = false) := hBf.out _ (by simp [headB, f0])
     replace f0 := hid f0
     refine wp_seq_quiet ?_
     simp only [List.append_eq, List.cons_append, List.nil_append]
     repeat (go_big_quiet_step (fail))
     refine wpQuiet_nil ?_
     exact ⟨by first | rfl | trivial, by first | rfl | trivial, via_mk _ _ (by rw [hb.out]; rfl)⟩
    subst f0
    have hb : Hid (B = true) := hBf.out _ (by simp [headB, s1.out])
    refine wp_seq_quiet ?_
    simp only [List.append_eq, List.cons_append, List.nil_append]
    repeat (go_big_quiet_step (fail))
    refine wpQuiet_nil ?_
    exact ⟨by first | rfl | trivial, by first | rfl | trivial, via_mk _ _ (by rw [hb.out]; rfl)⟩
  ·by_cases s0 : s.toList.isEmpty = true
   case neg =>
    have b2 : s.toList.isEmpty = false := by simpa using s0
    have hb : Hid (B = false) := hBf.out _ (by
     have : ¬ s.toList = [] := by simpa using s0
     simp [headB, this])
    refine wp_seq_quiet ?_
    simp only [List.append_eq, List.cons_append, List.nil_append]
    repeat (go_big_quiet_step (fail))
    refine wpQuiet_nil ?_
    exact ⟨by first | rfl | trivial, by first | rfl | trivial, via_mk _ _ (by rw [hb.out]; rfl)⟩
   have s1 : Hid (s.toList = []) := by show _ = _; simpa using s0
   by_cases l0 : ll = 0
   case neg =>
    have b3 : 0 < ll := by omega
    have hb : Hid (B = false) := hBf.out _ (by simp [headB, l0])
    replace l0 := hid l0
    refine wp_seq_quiet ?_
    simp only [List.append_eq, List.cons_append, List.nil_append]
    repeat (go_big_quiet_step (fail))
    refine wpQuiet_nil ?_
    exact ⟨by first | rfl | trivial, by first | rfl | trivial, via_mk _ _ (by rw [hb.out]; rfl)⟩
   subst l0
   by_cases f0 : fl = 0
   case neg =>
    have b4 : 0 < fl := by omega
    have hb : Hid (B = false) := hBf.out _ (by simp [headB, f0])
    replace f0 := hid f0
    refine wp_seq_quiet ?_
    simp only [List.append_eq, List.cons_append, List.nil_append]
    repeat (go_big_quiet_step (fail))
    refine wpQuiet_nil ?_
    exact ⟨by first | rfl | trivial, by first | rfl | trivial, via_mk _ _ (by rw [hb.out]; rfl)⟩
   subst f0
   have hb : Hid (B = true) := hBf.out _ (by simp [headB, s1.out])
   refine wp_seq_quiet ?_
   simp only [List.append_eq, List.cons_append, List.nil_append]
   repeat (go_big_quiet_step (fail))
   refine wpQuiet_nil ?_
   exact ⟨by first | rfl | trivial, by first | rfl | trivial, via_mk _ _ (by rw [hb.out]; rfl)⟩
  ·by_cases n0 : n = 0
   case neg =>
    have b0 : (n != 0) = true := by simp [n0]
    have hb : Hid (B = false) := hBf.out _ (by simp [headB]; omega)
    refine wp_seq_quiet ?_
    simp only [List.append_eq, List.cons_append, List.nil_append]
    repeat (go_big_quiet_step (fail))
    refine wpQuiet_nil ?_
    exact ⟨by first | rfl | trivial, by first | rfl | trivial, via_mk _ _ (by rw [hb.out]; rfl)⟩
   subst n0
   by_cases l0 : ll = 0
   case neg =>
    have b3 : 0 < ll := by omega
    have hb : Hid (B = false) := hBf.out _ (by simp [headB, l0])
    replace l0 := hid l0
    refine wp_seq_quiet ?_
    simp only [List.append_eq, List.cons_append, List.nil_append]
    repeat (go_big_quiet_step (fail))
    refine wpQuiet_nil ?_
    exact ⟨by first | rfl | trivial, by first | rfl | trivial, via_mk _ _ (by rw [hb.out]; rfl)⟩
   subst l0
   by_cases f0 : fl = 0
   case neg =>
    have b4 : 0 < fl := by omega
    have hb : Hid (B = false) := hBf.out _ (by simp [headB, f0])
    replace f0 := hid f0
    refine wp_seq_quiet ?_
    simp only [List.append_eq, List.cons_append, List.nil_append]
    repeat (go_big_quiet_step (fail))
    refine wpQuiet_nil ?_
    exact ⟨by first | rfl | trivial, by first | rfl | trivial, via_mk _ _ (by rw [hb.out]; rfl)⟩
   subst f0
   have hb : Hid (B = true) := hBf.out _ (by simp [headB])
   refine wp_seq_quiet ?_
   simp only [List.append_eq, List.cons_append, List.nil_append]
   repeat (go_big_quiet_step (fail))
   refine wpQuiet_nil ?_
   exact ⟨by first | rfl | trivial, by first | rfl | trivial, via_mk _ _ (by rw [hb.out]; rfl)⟩
  ·by_cases n0 : n = 0
   case neg =>
    have b0 : (n != 0) = true := by simp [n0]
    have hb : Hid (B = false) := hBf.out _ (by simp [headB]; omega)
    refine wp_seq_quiet ?_
    simp only [List.append_eq, List.cons_append, List.nil_append]
    repeat (go_big_quiet_step (fail))
    refine wpQuiet_nil ?_
    exact ⟨by first | rfl | trivial, by first | rfl | trivial, via_mk _ _ (by rw [hb.out]; rfl)⟩
   subst n0
   by_cases s0 : s.toList.isEmpty = true
   case neg =>
    have b2 : s.toList.isEmpty = false := by simpa using s0
    have hb : Hid (B = false) := hBf.out _ (by
     have : ¬ s.toList = [] := by simpa using s0
     simp [headB, this])
    refine wp_seq_quiet ?_
    simp only [List.append_eq, List.cons_append, List.nil_append]
    repeat (go_big_quiet_step (fail))
    refine wpQuiet_nil ?_
    exact ⟨by first | rfl | trivial, by first | rfl | trivial, via_mk _ _ (by rw [hb.out]; rfl)⟩
   have s1 : Hid (s.toList = []) := by show _ = _; simpa using s0
   by_cases f0 : fl = 0
   case neg =>
    have b4 : 0 < fl := by omega
    have hb : Hid (B = false) := hBf.out _ (by simp [headB, f0])
    replace f0 := hid f0
    refine wp_seq_quiet ?_
    simp only [List.append_eq, List.cons_append, List.nil_append]
    repeat (go_big_quiet_step (fail))
    refine wpQuiet_nil ?_
    exact ⟨by first | rfl | trivial, by first | rfl | trivial, via_mk _ _ (by rw [hb.out]; rfl)⟩
   subst f0
   have hb : Hid (B = true) := hBf.out _ (by simp [headB, s1.out])
   refine wp_seq_quiet ?_
   simp only [List.append_eq, List.cons_append, List.nil_append]
   repeat (go_big_quiet_step (fail))
   refine wpQuiet_nil ?_
   exact ⟨by first | rfl | trivial, by first | rfl | trivial, via_mk _ _ (by rw [hb.out]; rfl)⟩
  ·by_cases n0 : n = 0
   case neg =>
    have b0 : (n != 0) = true := by simp [n0]
    have hb : Hid (B = false) := hBf.out _ (by simp [headB]; omega)
    refine wp_seq_quiet ?_
    simp only [List.append_eq, List.cons_append, List.nil_append]
    repeat (go_big_quiet_step (fail))
    refine wpQuiet_nil ?_
    exact ⟨by first | rfl | trivial, by first | rfl | trivial, via_mk _ _ (by rw [hb.out]; rfl)⟩
   subst n0
   by_cases s0 : s.toList.isEmpty = true
   case neg =>
    have b2 : s.toList.isEmpty = false := by simpa using s0
    have hb : Hid (B = false) := hBf.out _ (by
     have : ¬ s.toList = [] := by simpa using s0
     simp [headB, this])
    refine wp_seq_quiet ?_
    simp only [List.append_eq, List.cons_append, List.nil_append]
    repeat (go_big_quiet_step (fail))
    refine wpQuiet_nil ?_
    exact ⟨by first | rfl | trivial, by first | rfl | trivial, via_mk _ _ (by rw [hb.out]; rfl)⟩
   have s1 : Hid (s.toList = []) := by show _ = _; simpa using s0
   by_cases l0 : ll = 0
   case neg =>
    have b3 : 0 < ll := by omega
    have hb : Hid (B = false) := hBf.out _ (by simp [headB, l0])
    replace l0 := hid l0
    refine wp_seq_quiet ?_
    simp only [List.append_eq, List.cons_append, List.nil_append]
    repeat (go_big_quiet_step (fail))
    refine wpQuiet_nil ?_
    exact ⟨by first | rfl | trivial, by first | rfl | trivial, via_mk _ _ (by rw [hb.out]; rfl)⟩
   subst l0
   have hb : Hid (B = true) := hBf.out _ (by simp [headB, s1.out])
   refine wp_seq_quiet ?_
   simp only [List.append_eq, List.cons_append, List.nil_append]
   repeat (go_big_quiet_step (fail))
   refine wpQuiet_nil ?_
   exact ⟨by first | rfl | trivial, by first | rfl | trivial, via_mk _ _ (by rw [hb.out]; rfl)⟩
 ·clear A0 A1 A2 A3 A4
  intro v
  cases B with
  | false =>
   have hA := hid (hFalse.out hO.out)
   go_wp2_with fail
   go_ret
   exact ⟨by rw [hA.out]; rfl, below_new _ _⟩
  | true =>
   rw [Bool.true_and] at hO
   go_wp2_with fail
   go_loopg [3] (fv.length + 1) (fun g i wr => ∃ m : Nat, (g + m = fv.length + 1) ∧ i = .int .i64 ((m : Int) + 1) ∧ m ≤ fv.length ∧ rising (fn.take (m + 1)) = true ∧ Below (w.alloc (.cells #[.int .i64 k, .int .i64 n, .string s, .slice la l.length lc, .slice fa fv.length fc] 25)).heap.size (w.alloc (.cells #[.int .i64 k, .int .i64 n, .string s, .slice la l.length lc, .slice fa fv.length fc] 25)) wr)
   case atStart => exact ⟨0, by omega, by simp, by omega, by cases fn <;> simp [rising], Below.refl _ _⟩
   case round =>
    obtain ⟨m, hj, rfl, hm, hris, hbr⟩ := hrel
    have hpr := hF0.out.later ((below_new _ _).step hbr)
    replace hris := hid hris
    by_cases hlt : m + 1 < fv.length
    ·obtain ⟨x, hx⟩ : ∃ x, fv[m + 1]? = some x := ⟨_, List.getElem?_eq_getElem hlt⟩
     obtain ⟨nm, hnm⟩ : ∃ nm, fn[m + 1]? = some nm := ⟨_, List.getElem?_eq_getElem (by rw [hfl.out]; exact hlt)⟩
     obtain ⟨y, hy⟩ : ∃ x, fv[m]? = some x := ⟨_, List.getElem?_eq_getElem (by omega)⟩
     obtain ⟨nn, hnn⟩ : ∃ nm, fn[m]? = some nm := ⟨_, List.getElem?_eq_getElem (by rw [hfl.out]; omega)⟩
     obtain ⟨b, off, xs, rfl, hxS, hxc, hxr, hnz⟩ := hpr.at_ hnm hx
     obtain ⟨b', off', ys, he, hyS, hyc, hyr, hnz'⟩ := hpr.at_ hnn hy
     injection he with he
     injection he with he1 he2
     subst he1 he2
     have c4 := box_cell (j := 4) hbr rfl
     have c0 : wr.cell? ⟨b, off + (m + 1) * 6, none⟩ = some (.string nm) := hxc 0 _ rfl
     have d0 : wr.cell? ⟨b, off + m * 6, none⟩ = some (.string nn) := hyc 0 _ rfl
     have hrs := hid (rising_succ fn m nn nm hnn hnm)
     clear hxc hyc hx hnm hy hnn
     have w1 : IntKind.i64.wrap (m : Int) = (m : Int) := IntWalk.i64_in _ ⟨by omega, by omega⟩
     have p1 : (0 : Int) ≤ (m : Int) + 1 := by omega
     have l1 : (m : Int) + 1 < (fv.length : Int) := by omega
     have l0 : (m : Int) < (fv.length : Int) := by omega
     have t1 : ((m : Int) + 1).toNat = m + 1 := by omega
     go_wp2_with fail
     go_quiet (fail)
     go_wp2_with fail
     ·have ht : (!Op.bytesLess nn.toList nm.toList) = true := by assumption
      have hf : rising fn = false := by
       cases hc : rising fn with
       | false => rfl
       | true =>
        have h1 := rising_take fn (m + 2) hc
        rw [hrs.out, hris.out, Bool.true_and] at h1
        unfold blt at h1
        rw [h1] at ht
        simp at ht
      have hA := hid (hFalse.out (hO.out.trans hf))
      go_ret
      exact ⟨by rw [hA.out]; rfl, below_drewN ((below_new _ _).step hbr) _⟩
     ·have ht : (!Op.bytesLess nn.toList nm.toList) = false := by assumption
      go_roundg (fv.length - m)
      case measure => omega
      case rel => exact ⟨m + 1, by omega, by go_num, by omega, by rw [hrs.out, hris.out, Bool.true_and]; unfold blt; simpa using ht, below_drewN hbr _⟩
    ·have hOt : Hid (O = true) := by
      have h1 : fn.take (m + 1) = fn := List.take_of_length_le (by rw [hfl.out]; omega)
      rw [h1] at hris
      exact hO.out.trans hris.out
     have A0 := box_cell (j := 0) hbr rfl
     have A1 := box_cell (j := 1) hbr rfl
     have A2 := box_cell (j := 2) hbr rfl
     have A3 := box_cell (j := 3) hbr rfl
     have A4 := box_cell (j := 4) hbr rfl
     have hB := hid ((below_new _ _).step hbr)
     go_wp2_with fail
     refine (hp.out _ _ (hV0.out.later hB.out)).mono ?_
     rintro e w1 ⟨pa, pc, rfl, hps, hb1⟩
     have hB1 := hid (hB.out.step hb1)
     have hpl := hps.lim
     clear A0 A1 A2 A3 A4
     go_wp2_with fail
     go_loopg [5] ps.length (fun g i wr => ∃ j : Nat, g + j = ps.length ∧ i = .int .i64 j ∧ (ps.take j).all (·.all formedB) = true ∧ Below w1.heap.size w1 wr)
     case atStart => exact ⟨0, by omega, rfl, rfl, Below.refl _ _⟩
     case round =>
      obtain ⟨j, hj, rfl, htk, hbr2⟩ := hrel
      replace htk := hid htk
      have hpr := hps.later hbr2
      by_cases hlt : j < ps.length
      ·obtain ⟨x, hx⟩ : ∃ x, ps[j]? = some x := ⟨_, List.getElem?_eq_getElem hlt⟩
       obtain ⟨b, off, xs, rfl, hxS, hxc, hxr⟩ := hpr.at_ hx
       have hxn := nodes_mem (List.mem_of_getElem? hx)
       obtain ⟨T, hT⟩ : ∃ T, T = x.all formedB := ⟨_, rfl⟩
       have hcx := hid (fun w cs h => ih x.nodes (by omega) x rfl w cs h)
       rw [← hT] at hcx
       replace hT := hid hT
       replace hx := hid hx
       obtain ⟨xk, xn, xsx, xl, xfn, xfv⟩ := x
       obtain ⟨xla, xlc, xfa, xfc, rfl, _⟩ := hxr.inv
       obtain ⟨c0, c1, c2, c3, c4⟩ := five hxc
       clear hxc
       go_wp2_with fail
       refine (hcx.out _ _ hxr).mono ?_
       rintro e w2 ⟨rfl, hb2⟩
       cases T with
       | false =>
        have hA : Hid (A = false) := by
         show _ = _
         rw [hd.out, all_no hx.out hT.out.symm, Bool.and_false]
        go_wp2_with fail
        go_ret
        exact ⟨by rw [hA.out]; rfl, hB1.out.step (hbr2.step hb2)⟩
       | true =>
        go_wp2_with fail
        go_roundg (ps.length - (j + 1))
        case measure => omega
        case rel => exact ⟨j + 1, by omega, by go_num, by rw [take_succ_of hx.out, List.all_append, htk.out]; simp [← hT.out], hbr2.step hb2⟩
      ·have hA : Hid (A = true) := by
        have : j = ps.length := by omega
        subst this
        have h := htk.out
        rw [List.take_length] at h
        show _ = _
        rw [hd.out, h, hOt.out]; rfl
       go_wp2_with fail
       go_ret
       exact ⟨by rw [hA.out]; rfl, hB1.out.step hbr2⟩
end Go.Proofs.YthjihdpleclejaaGreatDoor
