/-
  Walks: the reference's Bytes.
-/
import Derived.Test.YtdjegpmjhfbamaaDoorRef4
import Derived.Deep.RegionHeld3
namespace Go.Proofs.YtdjegpmjhfbamaaDoor
open Go.RowKit Go.Proofs

theorem encL_take_le (l : List PVal) (j : Nat) : (encL (l.take j)).length ≤ (encL l).length := by
  conv => rhs; rw [← List.take_append_drop j l, encL_append]
  rw [List.length_append]; omega
theorem encF_take_le : ∀ (fn : List ByteArray) (fv : List PVal) (j : Nat), (encF (fn.take j) (fv.take j)).length ≤ (encF fn fv).length
  | _, _, 0 => by simp [encF]
  | [], _, j + 1 => by simp [encF]
  | _ :: _, [], j + 1 => by simp [encF]
  | a :: ar, x :: r, j + 1 => by
    have := encF_take_le ar r j
    simp only [List.take_succ_cons, encF, List.length_append]
    omega
theorem Made.below {w w' : World} {l : List UInt8} {v : Value} (h : Made w w' l v) : Below w.heap.size w w' := by
  obtain ⟨_, _, _, hb⟩ := h
  exact hb.below
theorem Made.src {w w' : World} {l : List UInt8} {g n c : Nat} (h : Made w w' l (.slice (some ⟨g, 0, none⟩) n c)) : n = l.length ∧ Src w' g l := by
  obtain ⟨g', c', hv, hb⟩ := h
  injection hv with h1 h2 h3
  exact ⟨h2, hb.src⟩
theorem made_of {w wr : World} {o : Obj} {l : List UInt8} {v : Value} (h : Buf (w.alloc o).heap.size 5 (w.alloc o) wr l v) (hl : l ≠ []) : Made w wr l v := by
  have hb := h.base (B' := w.heap.size) (W0' := w) (by simp) (below_new w o)
  obtain ⟨g, cap, hv, _⟩ := h.form hl
  exact ⟨g, cap, hv, hb⟩

set_option maxRecDepth 100000 in
set_option maxHeartbeats 8000000 in
theorem rbytes_calls : ∀ (V : PVal) (w : World) (cs : List Value), V.enc.length ≤ 140737488355328 → Rd w (Now w) V cs →
    Calls Tryd.prog 47 #[.agg cs.toArray] w fun e w' => ∃ v, e = .returned v ∧ Made w w' V.enc v := by
  intro V
  induction hN : V.nodes using Nat.strongRecOn generalizing V with
  | _ N ih =>
  subst hN
  intro w cs hlen hV
  obtain ⟨i, hP⟩ := byte8
  have hvar := hid (fun n hn w => rvarint_calls n hn w)
  obtain ⟨k, n, s, l, fn, fv⟩ := V
  obtain ⟨la, lc, fa, fc, rfl, hk, hn, hs, hlc, hlm, hfc, hfm, hL, hF⟩ := hV.inv
  clear hV
  have hfl := hid hF.1
  have hL0 := hid hL
  have hF0 := hid hF
  obtain ⟨b0, hb0⟩ : ∃ b : UInt8, b = UInt8.ofNat (k % 256).toNat := ⟨_, rfl⟩
  have hz0 : Hid (k % 256 = b0.toNat) := by show _ = _; rw [hb0, UInt8.toNat_ofNat']; omega
  have hr : Hid (PVal.enc (.mk k n s l fn fv) = b0 :: (if k = 2 then [UInt8.ofNat (n % 256).toNat] else if k = 3 then varint (turned n) else if k = 4 then varint s.size ++ s.data.toList
      else if k = 5 then varint l.length ++ encL l else if k = 6 then varint fv.length ++ encF fn fv else [])) := by show _ = _; rw [PVal.enc, hb0]
  have hne : PVal.enc (.mk k n s l fn fv) ≠ [] := by rw [hr.out]; simp
  generalize PVal.enc (.mk k n s l fn fv) = R at *
  replace hne := hid hne
  clear hb0 hL hF
  have hnew : Hid (∀ (W : World) (g : Nat) (c : Int), g = W.heap.size → c = (b0.toNat : Int) → Buf W.heap.size 5 W (W.alloc (.cells #[.int .u8 c] 5)) [b0] (.slice (some ⟨g, 0, none⟩) 1 1)) := fun W g c hg hc => by
    subst hc hg
    exact buf_new [b0] (Below.refl _ _) (Nat.le_refl _) rfl (by simp [maxLen])
  by_cases h2 : k = 2
  · subst h2
    obtain ⟨b1, hbb⟩ : ∃ b : UInt8, b = UInt8.ofNat (n % 256).toNat := ⟨_, rfl⟩
    have hz1 : Hid (n % 256 = b1.toNat) := by show _ = _; rw [hbb, UInt8.toNat_ofNat']; omega
    replace hr : Hid (R = [b0] ++ [b1]) := by show _ = _; rw [hr.out, hbb]; simp
    clear hbb
    have hb1 := hnew.out (w.alloc (.cells #[.int .i64 2, .int .i64 n, .string s, .slice la l.length lc, .slice fa fv.length fc] 52)) (w.heap.size + 1) 2 (by simp) (show (2 : Int) = b0.toNat by have := hz0.out; omega)
    go_enter Tryd.func47, Tryd.ntmps47
    go_wp2_with (first
      | (at_builtin; (refine wpList_buf_made rfl _ _ rfl hP rfl (hb1.later (below_new _ _)) [b1] (w.heap.size + 1 + 1) 1 1 rfl rfl (src_new [b1] _ (by first | (simp only [bcells, List.map_cons, List.map_nil, ← hz1.out]; done) | (simp only [bcells, List.map_cons, List.map_nil, ← hz1.out, IntKind.wrap_u8]; done)) (by simp)) (by simp) ?_); intro v' w2 hb2))
    go_ret
    rw [← hr.out] at hb2
    exact ⟨_, rfl, made_of hb2 hne.out⟩
  by_cases h3 : k = 3
  · subst h3
    have hzg := hid (fun w => zig_calls n hn w)
    have htl := turned_lt hn
    replace hr : Hid (R = [b0] ++ varint (turned n)) := by show _ = _; rw [hr.out]; simp
    have hvl : 1 + (varint (turned n)).length ≤ 11 := by have := digits_le _ htl; rw [varint_length]; omega
    generalize turned n = T at *
    have hvT := hid (hvar.out T htl)
    generalize varint T = VT at *
    have hb1 := hnew.out (w.alloc (.cells #[.int .i64 3, .int .i64 n, .string s, .slice la l.length lc, .slice fa fv.length fc] 52)) (w.heap.size + 1) 3 (by simp) (show (3 : Int) = b0.toNat by have := hz0.out; omega)
    go_enter Tryd.func47, Tryd.ntmps47
    go_wp2_with fail
    refine (hzg.out _).mono ?_
    rintro e w1 ⟨rfl, rfl⟩
    go_wp2_with fail
    refine (hvT.out _).mono ?_
    rintro e w2 ⟨v, rfl, g2, c2, rfl, hm2⟩
    go_wp2_with (first
      | (at_builtin; (refine wpList_buf_made rfl _ _ rfl hP rfl (hb1.later hm2.below) VT g2 _ _ rfl rfl hm2.src (by simp; omega) ?_); intro v' w3 hb3))
    go_ret
    rw [← hr.out] at hb3
    exact ⟨_, rfl, made_of hb3 hne.out⟩
  by_cases h4 : k = 4
  · subst h4
    replace hr : Hid (R = ([b0] ++ varint s.size) ++ s.data.toList) := by show _ = _; rw [hr.out]; simp
    have hvl : (varint s.size).length ≤ 10 := by have := digits_le s.size (by omega); rw [varint_length]; omega
    have hvT := hid (hvar.out s.size (by omega))
    have hlen2 : 1 + (varint s.size).length + s.size ≤ 140737488355328 := by
      rw [hr.out] at hlen
      simp at hlen
      omega
    generalize varint s.size = VT at *
    have hkS : Hid (∀ w', Below (w.alloc (.cells #[.int .i64 4, .int .i64 n, .string s, .slice la l.length lc, .slice fa fv.length fc] 52)).heap.size (w.alloc (.cells #[.int .i64 4, .int .i64 n, .string s, .slice la l.length lc, .slice fa fv.length fc] 52)) w' → w'.cell? ⟨w.heap.size, 2, none⟩ = some (.string s)) := fun w' h => box_cell h rfl
    go_enter Tryd.func47, Tryd.ntmps47
    go_upto_region 8 with fail
    have hb1 := hnew.out (w.alloc (.cells #[.int .i64 4, .int .i64 n, .string s, .slice la l.length lc, .slice fa fv.length fc] 52)) (w.heap.size + 1) 4 (by simp) (show (4 : Int) = b0.toNat by have := hz0.out; omega)
    have hwr : IntKind.u64.wrap (s.size : Int) = (s.size : Int) := by rw [IntKind.wrap_u64]; omega
    go_region_held3 (fun w' => w'.cell? ⟨w.heap.size, 2, none⟩ = some (.string s))
      (first | exact hkS.out _ hb1.below.drew | exact hkS.out _ (hb1.below.drew.step hm2.below) | exact hkS.out _ hb3.below | exact hkS.out _ hb4.below)
      (first
        | (go_at_call 88; refine (hvT.out _).mono ?_; rintro e w2 ⟨v, rfl, g2, c2, rfl, hm2⟩)
        | ((refine step_buf_made rfl _ _ rfl hP rfl ((hb1.later (Below.refl _ _).drew).later hm2.below) VT g2 _ _ rfl rfl hm2.src (by simp; omega) ?_); intro v3 w3 hb3)
        | ((refine step_buf_text rfl _ _ rfl hP Tryd.underlying9 rfl hb3 s rfl (by simp; omega) ?_); intro v4 w4 hb4))
    go_wp2_with fail
    go_ret
    rw [← hr.out] at hb4
    exact ⟨_, rfl, made_of hb4 hne.out⟩

  by_cases h5 : k = 5
  · subst h5
    replace hr : Hid (R = ([b0] ++ varint l.length) ++ encL l) := by show _ = _; rw [hr.out]; simp
    have hvl : (varint l.length).length ≤ 10 := by have := digits_le l.length (by omega); rw [varint_length]; omega
    have hvT := hid (hvar.out l.length (by omega))
    have hlen2 : 1 + (varint l.length).length + (encL l).length ≤ 140737488355328 := by
      rw [hr.out] at hlen
      simp at hlen
      omega
    generalize varint l.length = VT at *
    have hb1 := hnew.out (w.alloc (.cells #[.int .i64 5, .int .i64 n, .string s, .slice la l.length lc, .slice fa fv.length fc] 52)) (w.heap.size + 1) 5 (by simp) (show (5 : Int) = b0.toNat by have := hz0.out; omega)
    clear hlen
    go_enter Tryd.func47, Tryd.ntmps47
    go_wp2_with fail
    refine (hvT.out _).mono ?_
    rintro e w2 ⟨v, rfl, g2, c2, rfl, hm2⟩
    go_wp2_with (first
      | (at_builtin; (refine wpList_buf_made rfl _ _ rfl hP rfl (hb1.later hm2.below) VT g2 _ _ rfl rfl hm2.src (by simp; omega) ?_); intro v' w3 hb3))
    go_loopg [3, 4] l.length (fun q o i wr => ∃ j : Nat, q + j = l.length ∧ i = .int .i64 j ∧ Buf (w.alloc (.cells #[.int .i64 5, .int .i64 n, .string s, .slice la l.length lc, .slice fa fv.length fc] 52)).heap.size 5 (w.alloc (.cells #[.int .i64 5, .int .i64 n, .string s, .slice la l.length lc, .slice fa fv.length fc] 52)) wr (([b0] ++ VT) ++ encL (l.take j)) o)
    case atStart => exact ⟨0, by omega, rfl, by simpa [encL] using hb3⟩
    case round =>
      obtain ⟨j, hj, rfl, hbr⟩ := hrel
      have a3 := box_cell (j := 3) hbr.below rfl
      have hpr := hL0.out.later ((below_new _ _).step hbr.below)
      by_cases hlt : j < l.length
      · obtain ⟨x, hx⟩ : ∃ x, l[j]? = some x := ⟨_, List.getElem?_eq_getElem hlt⟩
        obtain ⟨b, off, xs, rfl, hxS, hxc, hxr⟩ := hpr.at_ hx
        have hxn := nodes_mem (List.mem_of_getElem? hx)
        have hsx := hid (encL_succ hx)
        have hle := encL_take_le l (j + 1)
        rw [hsx.out, List.length_append] at hle
        have hcx := hid (fun w cs h => ih x.nodes (by simp only [PVal.nodes]; omega) x rfl w cs (by omega) h)
        generalize x.enc = ex at *
        generalize encL (l.take j) = done at *
        clear hx
        obtain ⟨xk, xn, xsx, xl, xfn, xfv⟩ := x
        obtain ⟨xla, xlc, xfa, xfc, rfl, _⟩ := hxr.inv
        obtain ⟨d0, d1, d2, d3, d4⟩ := five hxc
        clear hxc
        go_wp2_with fail
        refine (hcx.out _ _ hxr).mono ?_
        rintro e w4 ⟨v4, rfl, g4, c4, rfl, hm4⟩
        go_wp2_with (first
          | (at_builtin; (refine wpList_buf_made rfl _ _ rfl hP rfl (hbr.later hm4.below) ex g4 _ _ rfl rfl hm4.src (by simp; omega) ?_); intro v5 w5 hb5))
        go_roundg (l.length - (j + 1))
        case measure => omega
        case rel => exact ⟨j + 1, by omega, by go_num, by rw [hsx.out, ← List.append_assoc]; exact hb5⟩
      · have he : l.take j = l := List.take_of_length_le (by omega)
        rw [he, ← hr.out] at hbr
        go_wp2_with fail
        go_ret
        exact ⟨_, rfl, made_of hbr hne.out⟩
  by_cases h6 : k = 6
  · subst h6
    replace hr : Hid (R = ([b0] ++ varint fv.length) ++ encF fn fv) := by show _ = _; rw [hr.out]; simp
    have hvl : (varint fv.length).length ≤ 10 := by have := digits_le fv.length (by omega); rw [varint_length]; omega
    have hvT := hid (hvar.out fv.length (by omega))
    have hlen2 : 1 + (varint fv.length).length + (encF fn fv).length ≤ 140737488355328 := by
      rw [hr.out] at hlen
      simp at hlen
      omega
    generalize varint fv.length = VT at *
    have hb1 := hnew.out (w.alloc (.cells #[.int .i64 6, .int .i64 n, .string s, .slice la l.length lc, .slice fa fv.length fc] 52)) (w.heap.size + 1) 6 (by simp) (show (6 : Int) = b0.toNat by have := hz0.out; omega)
    clear hlen
    go_enter Tryd.func47, Tryd.ntmps47
    go_wp2_with fail
    refine (hvT.out _).mono ?_
    rintro e w2 ⟨v, rfl, g2, c2, rfl, hm2⟩
    go_wp2_with (first
      | (at_builtin; (refine wpList_buf_made rfl _ _ rfl hP rfl (hb1.later hm2.below) VT g2 _ _ rfl rfl hm2.src (by simp; omega) ?_); intro v' w3 hb3))
    go_loopg [3, 5] fv.length (fun q o i wr => ∃ j : Nat, q + j = fv.length ∧ i = .int .i64 j ∧ Buf (w.alloc (.cells #[.int .i64 6, .int .i64 n, .string s, .slice la l.length lc, .slice fa fv.length fc] 52)).heap.size 5 (w.alloc (.cells #[.int .i64 6, .int .i64 n, .string s, .slice la l.length lc, .slice fa fv.length fc] 52)) wr (([b0] ++ VT) ++ encF (fn.take j) (fv.take j)) o)
    case atStart => exact ⟨0, by omega, rfl, by simpa [encF] using hb3⟩
    case round =>
      obtain ⟨j, hj, rfl, hbr⟩ := hrel
      have a4 := box_cell (j := 4) hbr.below rfl
      by_cases hlt : j < fv.length
      · obtain ⟨x, hx⟩ : ∃ x, fv[j]? = some x := ⟨_, List.getElem?_eq_getElem hlt⟩
        obtain ⟨nm, hnm⟩ : ∃ nm, fn[j]? = some nm := ⟨_, List.getElem?_eq_getElem (by rw [hfl.out]; exact hlt)⟩
        obtain ⟨b, off, xs, rfl, hxS, hxc, hxr, hnz⟩ := hF0.out.at_ hnm hx
        have hxn := nodes_mem (List.mem_of_getElem? hx)
        have hsx := hid (encF_succ hnm hx)
        have hle := encF_take_le fn fv (j + 1)
        rw [hsx.out, List.length_append, List.length_append, List.length_append] at hle
        have hnl : nm.data.toList.length = nm.size := by simp
        rw [hnl] at hle
        have hcx := hid (fun w cs h => ih x.nodes (by simp only [PVal.nodes]; omega) x rfl w cs (by omega) h)
        have hvN := hid (hvar.out nm.size (by omega))
        generalize x.enc = ex at *
        generalize encF (fn.take j) (fv.take j) = done at *
        generalize varint nm.size = VN at *
        clear hx hnm
        replace hnl := hid hnl
        obtain ⟨xk, xn, xsx, xl, xfn, xfv⟩ := x
        obtain ⟨xla, xlc, xfa, xfc, rfl, _⟩ := hxr.inv
        have hc6 : Hid (∀ w', Below w.heap.size w w' → _) := fun w' h => six (cells_later h hxS hxc)
        have hxr := hid hxr
        have hkS : Hid (∀ w', Below (w.alloc (.cells #[.int .i64 6, .int .i64 n, .string s, .slice la l.length lc, .slice (some ⟨b, off, none⟩) fv.length fc] 52)).heap.size (w.alloc (.cells #[.int .i64 6, .int .i64 n, .string s, .slice la l.length lc, .slice (some ⟨b, off, none⟩) fv.length fc] 52)) w' → w'.cell? ⟨w.heap.size, 4, none⟩ = some (.slice (some ⟨b, off, none⟩) fv.length fc) ∧ w'.cell? ⟨b, off + j * 6, none⟩ = some (.string nm)) :=
          fun w' h => ⟨box_cell h rfl, (hc6.out w' ((below_new _ _).step h)).1⟩
        have hwr : IntKind.u64.wrap (nm.size : Int) = (nm.size : Int) := by rw [IntKind.wrap_u64]; omega
        have p1 : (0 : Int) ≤ (j : Int) := by omega
        have l1 : (j : Int) < (fv.length : Int) := by omega
        clear hxc
        go_upto_region 20 with fail
        go_region_held3 (fun w' => w'.cell? ⟨w.heap.size, 4, none⟩ = some (.slice (some ⟨b, off, none⟩) fv.length fc) ∧ w'.cell? ⟨b, off + j * 6, none⟩ = some (.string nm))
          (first | exact hkS.out _ hbr.below.drew | exact hkS.out _ (hbr.below.drew.step hm4.below) | exact hkS.out _ hb5.below | exact hkS.out _ hb6.below)
          (first
            | (go_at_call 88; refine (hvN.out _).mono ?_; rintro e w4 ⟨v4, rfl, g4, c4, rfl, hm4⟩)
            | ((refine step_buf_made rfl _ _ rfl hP rfl ((hbr.later (Below.refl _ _).drew).later hm4.below) VN g4 _ _ rfl rfl hm4.src (by simp; omega) ?_); intro v5 w5 hb5)
            | ((refine step_buf_text rfl _ _ rfl hP Tryd.underlying9 rfl hb5 nm rfl (by simp; omega) ?_); intro v6 w6 hb6))
        clear a4 hwr
        have a4 := box_cell (j := 4) hb6.below rfl
        have hbw := hid ((below_new _ _).step hb6.below)
        obtain ⟨d0, d1, d2, d3, d4, d5⟩ := hc6.out _ hbw.out
        go_wp2_with fail
        refine (hcx.out _ _ (hxr.out.later hbw.out)).mono ?_
        rintro e w7 ⟨v7, rfl, g7, c7, rfl, hm7⟩
        go_wp2_with (first
          | (at_builtin; (refine wpList_buf_made rfl _ _ rfl hP rfl (hb6.later hm7.below) ex g7 _ _ rfl rfl hm7.src (by simp; omega) ?_); intro v8 w8 hb8))
        go_roundg (fv.length - (j + 1))
        case measure => omega
        case rel => exact ⟨j + 1, by omega, by go_num, by rw [hsx.out]; simpa using hb8⟩
      · have he : encF (fn.take j) (fv.take j) = encF fn fv := by rw [List.take_of_length_le (by omega : fv.length ≤ j), List.take_of_length_le (by rw [hfl.out]; omega : fn.length ≤ j)]
        rw [he, ← hr.out] at hbr
        go_wp2_with fail
        go_ret
        exact ⟨_, rfl, made_of hbr hne.out⟩
  · replace hr : Hid (R = [b0]) := by show _ = _; rw [hr.out]; simp [h2, h3, h4, h5, h6]
    have b2 : (k == 2) = false := by simpa using h2
    have b3 : (k == 3) = false := by simpa using h3
    have b4 : (k == 4) = false := by simpa using h4
    have b5 : (k == 5) = false := by simpa using h5
    have b6 : (k == 6) = false := by simpa using h6
    have hb1 := hnew.out (w.alloc (.cells #[.int .i64 k, .int .i64 n, .string s, .slice la l.length lc, .slice fa fv.length fc] 52)) (w.heap.size + 1) (k % 256) (by simp) hz0.out
    rw [← hr.out] at hb1
    go_enter Tryd.func47, Tryd.ntmps47
    go_wp2_with fail
    go_ret
    exact ⟨_, rfl, made_of hb1 hne.out⟩
end Go.Proofs.YtdjegpmjhfbamaaDoor
