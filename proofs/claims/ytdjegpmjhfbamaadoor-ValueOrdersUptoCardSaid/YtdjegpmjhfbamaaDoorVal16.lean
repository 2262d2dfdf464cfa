/-
  Walks: value.hash's value; Hash.
-/
import Derived.Test.YtdjegpmjhfbamaaDoorVal15
namespace Go.Proofs.YtdjegpmjhfbamaaDoor
open Go.RowKit Go.Proofs

theorem Save.cell {g : Nat} {w w' : World} (h : Save g w w') {b o : Nat} (hb : b < w.heap.size) (hg : b ≠ g) : w'.cell? ⟨b, o, none⟩ = w.cell? ⟨b, o, none⟩ := World.cell?_of_block (w := w) (h.block b hb hg)
/-- The cells of a box that was laid ahead of a call of the hash. -/
theorem save_box {g : Nat} {w w' : World} {cs : Array Value} {t : TypeId} (hg : g < w.heap.size) (h : Save g (w.alloc (.cells cs t)) w') {j : Nat} {v : Value} (hj : cs[j]? = some v) : w'.cell? ⟨w.heap.size, j, none⟩ = some v := by
  rw [h.cell (by simp) (by omega)]
  exact (cell_of_row _ _ _ _ _ _ (heap_alloc_new w _)).trans hj
theorem Save.step {g : Nat} {w w' : World} {o : Obj} (h : Save g (w.alloc o) w') : Save g w w' := (Save.of_below (below_new w o)).trans h

set_option maxRecDepth 100000 in
set_option maxHeartbeats 4000000 in
theorem hash_calls : ∀ (V : PVal) (B g : Nat) (h : Int) (w : World) (cs : List Value), Rd w (fun b => b < B) V cs → B ≤ g → Cell w g h →
    Calls Tryd.prog 92 #[.pointer (some ⟨g, 0, none⟩), .agg cs.toArray] w fun e w' => (∃ v, e = .returned v) ∧ Cell w' g (mix h V.enc) ∧ Save g w w' := by
  intro V
  induction hN : V.nodes using Nat.strongRecOn generalizing V with
  | _ N ih =>
  subst hN
  intro B g h w cs hV hB hc
  have hV0 := hid hV
  obtain ⟨k, n, s, l, fn, fv⟩ := V
  obtain ⟨la, lc, fa, fc, rfl, hk, hn, hs, hlc, hlm, hfc, hfm, hL, hF⟩ := hV.inv
  have hlen := hid hF.1
  have hgw := hc.lt
  have hc := hid hc
  have hby := hid byte_calls
  have hnu := hid number_calls
  have hbs := hid bytes_calls
  obtain ⟨b0, hb0⟩ : ∃ b : UInt8, b = UInt8.ofNat (k % 256).toNat := ⟨_, rfl⟩
  have hz0 : Hid (k % 256 = b0.toNat) := by show _ = _; rw [hb0, UInt8.toNat_ofNat']; omega
  have hr : Hid (PVal.enc (.mk k n s l fn fv) = b0 :: (if k = 2 then [UInt8.ofNat (n % 256).toNat] else if k = 3 then varint (turned n) else if k = 4 then varint s.size ++ s.data.toList
      else if k = 5 then varint l.length ++ encL l else if k = 6 then varint fv.length ++ encF fn fv else [])) := by show _ = _; rw [PVal.enc, hb0]
  generalize PVal.enc (.mk k n s l fn fv) = R at *
  clear hb0
  go_enter Tryd.func92, Tryd.ntmps92
  go_wp2_with fail
  refine (hby.out b0 _ (by first | exact hz0.out | (rw [IntKind.wrap_u8]; exact hz0.out)) g h _ (hc.out.keep (below_new _ _))).mono ?_
  rintro e w1 ⟨⟨v0, rfl⟩, hc1, hs1⟩
  have hm1 := hid (mix_cons h b0)
  have hc1 := hid hc1
  have a0 := save_box (j := 0) hgw hs1 rfl
  have a1 := save_box (j := 1) hgw hs1 rfl
  have a2 := save_box (j := 2) hgw hs1 rfl
  have a3 := save_box (j := 3) hgw hs1 rfl
  have a4 := save_box (j := 4) hgw hs1 rfl
  by_cases h2 : k = 2
  · subst h2
    obtain ⟨b1, hb1⟩ : ∃ b : UInt8, b = UInt8.ofNat (n % 256).toNat := ⟨_, rfl⟩
    have hz1 : Hid (n % 256 = b1.toNat) := by show _ = _; rw [hb1, UInt8.toNat_ofNat']; omega
    replace hr : Hid (R = b0 :: [b1]) := by show _ = _; rw [hr.out, hb1]; simp
    clear hb1
    go_wp2_with fail
    refine (hby.out b1 _ (by first | exact hz1.out | (rw [IntKind.wrap_u8]; exact hz1.out)) g _ _ hc1.out).mono ?_
    rintro e w2 ⟨⟨v1, rfl⟩, hc2, hs2⟩
    go_wp2_with fail
    go_returns
    rw [hr.out, hm1.out]
    exact ⟨⟨_, rfl⟩, hc2, hs1.step.trans hs2⟩
  by_cases h3 : k = 3
  · subst h3
    replace hr : Hid (R = b0 :: varint (turned n)) := by show _ = _; rw [hr.out]; simp
    have htu := hid (fun w => turned_calls n hn w)
    have htl := turned_lt hn
    generalize turned n = T at *
    go_wp2_with fail
    refine (htu.out _).mono ?_
    rintro e w0 ⟨rfl, rfl⟩
    go_wp2_with fail
    refine (hnu.out T htl g _ _ hc1.out).mono ?_
    rintro e w2 ⟨⟨v1, rfl⟩, hc2, hs2⟩
    go_wp2_with fail
    go_returns
    rw [hr.out, hm1.out]
    exact ⟨⟨_, rfl⟩, hc2, hs1.step.trans hs2⟩
  by_cases h4 : k = 4
  · subst h4
    replace hr : Hid (R = b0 :: (varint s.size ++ s.data.toList)) := by show _ = _; rw [hr.out]; simp
    go_wp2_with fail
    refine (hnu.out s.size (by omega) g _ _ hc1.out).mono ?_
    rintro e w2 ⟨⟨v1, rfl⟩, hc2, hs2⟩
    have hs2 := hs1.trans hs2
    clear a0 a1 a2 a3 a4
    have a0 := save_box (j := 0) hgw hs2 rfl
    have a1 := save_box (j := 1) hgw hs2 rfl
    have a2 := save_box (j := 2) hgw hs2 rfl
    have a3 := save_box (j := 3) hgw hs2 rfl
    have a4 := save_box (j := 4) hgw hs2 rfl
    go_wp2_with fail
    refine (hbs.out s hs g _ _ hc2).mono ?_
    rintro e w3 ⟨⟨v2, rfl⟩, hc3, hs3⟩
    go_wp2_with fail
    go_returns
    rw [hr.out, hm1.out, mix_append]
    exact ⟨⟨_, rfl⟩, hc3, hs2.step.trans hs3⟩
  by_cases h5 : k = 5
  · subst h5
    replace hr : Hid (R = b0 :: (varint l.length ++ encL l)) := by show _ = _; rw [hr.out]; simp
    go_wp2_with fail
    refine (hnu.out l.length (by omega) g _ _ hc1.out).mono ?_
    rintro e w2 ⟨⟨v1, rfl⟩, hc2, hs2⟩
    have hs2 := hs1.trans hs2
    clear a0 a1 a2 a3 a4
    have a0 := save_box (j := 0) hgw hs2 rfl
    have a1 := save_box (j := 1) hgw hs2 rfl
    have a2 := save_box (j := 2) hgw hs2 rfl
    have a3 := save_box (j := 3) hgw hs2 rfl
    have a4 := save_box (j := 4) hgw hs2 rfl
    have hs2 := hid hs2
    go_wp2_with fail
    go_loopg [52] l.length (fun q i wr => ∃ j : Nat, q + j = l.length ∧ i = .int .i64 j ∧ Cell wr g (mix (mix (mix h [b0]) (varint l.length)) (encL (l.take j))) ∧ Save g w wr)
    case atStart => exact ⟨0, by omega, rfl, hc2, hs2.out.step⟩
    case round =>
      obtain ⟨j, hj, rfl, hcr, hsr⟩ := hrel
      have hkeep : ∀ b, b < B → wr.heap[b]? = w.heap[b]? := fun b hb => hsr.block b (by omega) (by omega)
      have hpr := hL.keep (S' := fun b => b < B) (fun _ h => h) hkeep
      have hcr := hid hcr
      have hsz := hsr.size
      have hkeep := hid hkeep
      by_cases hlt : j < l.length
      · obtain ⟨x, hx⟩ : ∃ x, l[j]? = some x := ⟨_, List.getElem?_eq_getElem hlt⟩
        obtain ⟨b, off, xs, rfl, hxS, hxc, hxr⟩ := hpr.at_ hx
        have hxn := nodes_mem (List.mem_of_getElem? hx)
        have hcx := hid (ih x.nodes (by simp only [PVal.nodes]; omega) x rfl)
        have hsx := hid (encL_succ hx)
        generalize x.enc = X at *
        obtain ⟨xk, xn, xsx, xl, xfn, xfv⟩ := x
        obtain ⟨xla, xlc, xfa, xfc, rfl, _⟩ := hxr.inv
        obtain ⟨c0, c1, c2, c3, c4⟩ := five hxc
        clear hxc
        go_wp2_with fail
        refine (hcx.out B g _ _ _ (hxr.keep (fun _ h => h) (fun b hb => (below_new wr _).block b (by omega))) hB (hcr.out.keep (below_new _ _))).mono ?_
        rintro e w3 ⟨⟨v2, rfl⟩, hc3, hs3⟩
        go_wp2_with fail
        go_roundg (l.length - (j + 1))
        case measure => omega
        case rel => exact ⟨j + 1, by omega, by go_num, by rw [hsx.out, mix_append]; exact hc3, hsr.trans hs3.step⟩
      · obtain rfl : j = l.length := by omega
        go_wp2_with fail
        go_returns
        rw [hr.out, hm1.out, mix_append]
        refine ⟨⟨_, rfl⟩, ?_, hsr⟩
        have := hcr.out
        rw [List.take_length] at this
        exact this
  by_cases h6 : k = 6
  · subst h6
    replace hr : Hid (R = b0 :: (varint fv.length ++ encF fn fv)) := by show _ = _; rw [hr.out]; simp
    go_wp2_with fail
    refine (hnu.out fv.length (by omega) g _ _ hc1.out).mono ?_
    rintro e w2 ⟨⟨v1, rfl⟩, hc2, hs2⟩
    have hs2 := hs1.trans hs2
    clear a0 a1 a2 a3 a4
    have a0 := save_box (j := 0) hgw hs2 rfl
    have a1 := save_box (j := 1) hgw hs2 rfl
    have a2 := save_box (j := 2) hgw hs2 rfl
    have a3 := save_box (j := 3) hgw hs2 rfl
    have a4 := save_box (j := 4) hgw hs2 rfl
    have hs2 := hid hs2
    go_wp2_with fail
    go_loopg [71] fv.length (fun q i wr => ∃ j : Nat, q + j = fv.length ∧ i = .int .i64 j ∧ Cell wr g (mix (mix (mix h [b0]) (varint fv.length)) (encF (fn.take j) (fv.take j))) ∧ Save g w wr)
    case atStart => exact ⟨0, by omega, rfl, hc2, hs2.out.step⟩
    case round =>
      obtain ⟨j, hj, rfl, hcr, hsr⟩ := hrel
      have hkeep : ∀ b, b < B → wr.heap[b]? = w.heap[b]? := fun b hb => hsr.block b (by omega) (by omega)
      have hpr := hF.keep (S' := fun b => b < B) (fun _ h => h) hkeep
      have hcr := hid hcr
      have hsz := hsr.size
      have hkeep := hid hkeep
      by_cases hlt : j < fv.length
      · obtain ⟨x, hx⟩ : ∃ x, fv[j]? = some x := ⟨_, List.getElem?_eq_getElem hlt⟩
        obtain ⟨nm, hnm⟩ : ∃ nm, fn[j]? = some nm := ⟨_, List.getElem?_eq_getElem (by rw [hlen.out]; exact hlt)⟩
        obtain ⟨b, off, xs, rfl, hxS, hxc, hxr, hnz⟩ := hpr.at_ hnm hx
        have hxn := nodes_mem (List.mem_of_getElem? hx)
        have hcx := hid (ih x.nodes (by simp only [PVal.nodes]; omega) x rfl)
        have hsx := hid (encF_succ hnm hx)
        generalize x.enc = X at *
        obtain ⟨xk, xn, xsx, xl, xfn, xfv⟩ := x
        obtain ⟨xla, xlc, xfa, xfc, rfl, _⟩ := hxr.inv
        obtain ⟨c0, c1, c2, c3, c4, c5⟩ := six hxc
        clear hxc
        have hgr : g < wr.heap.size := hcr.out.lt
        go_wp2_with fail
        refine (hnu.out nm.size (by omega) g _ _ (hcr.out.keep (below_new _ _))).mono ?_
        rintro e w3 ⟨⟨v2, rfl⟩, hc3, hs3⟩
        have e0 := save_box (j := 0) hgr hs3 rfl
        have e1 := save_box (j := 1) hgr hs3 rfl
        have e2 := save_box (j := 2) hgr hs3 rfl
        have e3 := save_box (j := 3) hgr hs3 rfl
        have e4 := save_box (j := 4) hgr hs3 rfl
        have e5 := save_box (j := 5) hgr hs3 rfl
        have hc3 := hid hc3
        go_wp2_with fail
        refine (hbs.out nm hnz g _ _ hc3.out).mono ?_
        rintro e w4 ⟨⟨v3, rfl⟩, hc4, hs4⟩
        have hs4 := hs3.trans hs4
        clear e0 e1 e2 e3 e4 e5
        have e0 := save_box (j := 0) hgr hs4 rfl
        have e1 := save_box (j := 1) hgr hs4 rfl
        have e2 := save_box (j := 2) hgr hs4 rfl
        have e3 := save_box (j := 3) hgr hs4 rfl
        have e4 := save_box (j := 4) hgr hs4 rfl
        have e5 := save_box (j := 5) hgr hs4 rfl
        have hc4 := hid hc4
        go_wp2_with fail
        refine (hcx.out B g _ _ _ (hxr.keep (fun _ h => h) (fun b hb => (hs4.step.block b (by omega) (by omega)))) hB hc4.out).mono ?_
        rintro e w5 ⟨⟨v4, rfl⟩, hc5, hs5⟩
        go_wp2_with fail
        go_roundg (fv.length - (j + 1))
        case measure => omega
        case rel => exact ⟨j + 1, by omega, by go_num, by rw [hsx.out, mix_append, mix_append, mix_append]; exact hc5, hsr.trans (hs4.step.trans hs5)⟩
      · obtain rfl : j = fv.length := by omega
        go_wp2_with fail
        go_returns
        rw [hr.out, hm1.out, mix_append]
        refine ⟨⟨_, rfl⟩, ?_, hsr⟩
        have := hcr.out
        rw [List.take_length, ← hlen.out, List.take_length] at this
        rw [← hlen.out]
        exact this
  · replace hr : Hid (R = b0 :: []) := by show _ = _; rw [hr.out]; simp [h2, h3, h4, h5, h6]
    have n2 : (k == 2) = false := by simpa using h2
    have n3 : (k == 3) = false := by simpa using h3
    have n4 : (k == 4) = false := by simpa using h4
    have n5 : (k == 5) = false := by simpa using h5
    have n6 : (k == 6) = false := by simpa using h6
    go_wp2_with fail
    go_returns
    rw [hr.out, hm1.out]
    exact ⟨⟨_, rfl⟩, hc1.out, hs1.step⟩

set_option maxRecDepth 100000 in
set_option maxHeartbeats 1000000 in
theorem hash_tells (V : PVal) (w : World) (cs : List Value) (hN : V.nodes ≤ 20000) (hT : Tabs w) (hV : Rd w (Now w) V cs) :
    Calls Tryd.prog 49 #[.agg cs.toArray] w fun e w' =>
      e = .returned (.tuple #[.int .u64 (if V.good = 0 then mix 14695981039346656037 V.enc else 0), .int .i64 V.good]) ∧ Below w.heap.size w w' := by
  have hg := hid (fun w cs => good_calls V w cs hN)
  have hh := hid (hash_calls V)
  have hT := hid hT
  have hV0 := hid hV
  generalize V.good = G at *
  generalize hX : mix 14695981039346656037 V.enc = X at *
  have hX := hid hX
  generalize hE : V.enc = E at *
  clear hE
  obtain ⟨k, n, s, l, fn, fv⟩ := V
  obtain ⟨la, lc, fa, fc, rfl, hk, hn, hsz, hlc, hlm, hfc, hfm, hL, hF⟩ := hV.inv
  clear hV
  go_enter Tryd.func49, Tryd.ntmps49
  go_wp2_with fail
  refine (hg.out _ _ (Tabs.stays _ _ hT.out (below_new _ _)) (hV0.out.later (below_new _ _))).mono ?_
  rintro e w1 ⟨rfl, h1⟩
  have hb1 := hid ((below_new w _).step h1)
  have hlt : w.heap.size < w1.heap.size := by have := h1.size; simp at this; omega
  by_cases hG : G = 0
  · subst hG
    have a0 := box_cell (j := 0) h1 rfl
    have a1 := box_cell (j := 1) h1 rfl
    have a2 := box_cell (j := 2) h1 rfl
    have a3 := box_cell (j := 3) h1 rfl
    have a4 := box_cell (j := 4) h1 rfl
    go_wp2_with fail
    refine (hh.out w1.heap.size w1.heap.size 14695981039346656037 _ _ ((hV0.out.keep (S' := fun b => b < w1.heap.size) (fun b hb => Nat.lt_of_lt_of_le hb hb1.out.size) (fun b hb => by
      rw [Below.heap_alloc _ _ _ (Nat.lt_of_lt_of_le hb hb1.out.size)]; exact hb1.out.block b hb))) (Nat.le_refl _) (heap_alloc_new _ _)).mono ?_
    rintro e w2 ⟨⟨v, rfl⟩, hc2, hs2⟩
    rw [hX.out] at hc2
    have c0 := hc2.at_
    have hb2 := hs2.below (B := w1.heap.size) (Nat.le_refl _) (by simp)
    have hb2 := hid (hb1.out.step ((below_new w1 _).trans hb2))
    have hc2 := hid hc2
    go_wp2_with fail
    go_ret2
    exact ⟨rfl, hb2.out⟩
  · have hG' : (G != 0) = true := by simp [hG]
    go_wp2_with fail
    go_ret2
    exact ⟨by simp only []; rfl, hb1.out⟩
end Go.Proofs.YtdjegpmjhfbamaaDoor
