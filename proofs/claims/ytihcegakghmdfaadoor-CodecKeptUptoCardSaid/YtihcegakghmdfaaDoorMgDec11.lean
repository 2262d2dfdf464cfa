/-
  Walk: the reference's take, a Doc that may be.
-/
import Derived.Test.YtihcegakghmdfaaDoorMgDec10
namespace Go.Proofs.YtihcegakghmdfaaDoor
open Go.RowKit Go.Proofs

theorem last_cell {w : World} {A B e m : Nat} {fs : Flds} {vs : Value} {last : ByteArray} (hl : (m = 0 ∧ last = ByteArray.empty) ∨ ∃ fs' x, fs = fs' ++ [(last, x)]) (hm : fs.length = m) (hown : OwnG RdFl 6 A B e w fs vs) :
    (m = 0 ∧ last = ByteArray.empty) ∨ ∃ m' g cap, m = m' + 1 ∧ vs = .slice (some ⟨g, 0, none⟩) (m' + 1) cap ∧ m' + 1 ≤ cap ∧ g < w.heap.size ∧ w.cell? ⟨g, m' * 6, none⟩ = some (.string last) := by
  rcases hl with h | ⟨fs', x, rfl⟩
  · exact .inl h
  right
  rw [List.length_append, List.length_singleton] at hm
  rcases hown.row fldRel with ⟨_, h⟩ | ⟨g, cap, rfl, h1, _, _, h4, cs, h5, h6⟩
  · simp at h
  · rw [List.length_append, List.length_singleton] at h1 h5
    obtain ⟨ys, hc, _, _⟩ := h6 fs'.length (last, x) (by simp)
    have := h5 fs'.length (by omega) 0 (.string last) (by rw [hc]; rfl)
    refine ⟨fs'.length, g, cap, hm.symm, by rw [List.length_append, List.length_singleton], h1, h4, ?_⟩
    simpa using this
set_option maxRecDepth 100000 in
set_option maxHeartbeats 4000000 in
theorem rtake_doc (f : List UInt8 → Got PVal) (hfp : ∀ l c, f l = .bad c → 0 < c) (d : Nat) (hd8 : d < 8) {w : World} {bv : Value} {l : List UInt8} (hb : BytesAt w (Now w) l bv) (hl : l.length ≤ 35184372088832) (p : Nat) (hlt : p < l.length)
    (ih : ∀ (w' : World), Below w.heap.size w w' → ∀ p', p' ≤ l.length → Calls Tryd.prog 75 #[bv, .int .i64 p', .int .i64 ((d + 1 : Nat) : Int)] w' (RTk (f (l.drop p')) p' w'))
    (hfe : ∀ L V n, f L = .ok V n → n ≤ L.length)
    (hk : ∀ k r, l.drop p = k :: r → k.toNat = 6) :
    Calls Tryd.prog 75 #[bv, .int .i64 p, .int .i64 d] w (RTk (headR (some f) (l.drop p)) p w) := by
  obtain ⟨R, hR⟩ : ∃ R, R = headR (some f) (l.drop p) := ⟨_, rfl⟩
  rw [← hR]
  have hb0 := hid hb
  obtain ⟨a, cap, rfl, hc1, hc2, hcell⟩ := hb
  replace hcell := hid hcell
  replace ih := hid ih
  have hltI : (p : Int) < (l.length : Int) := by omega
  have hend : ¬ p = l.length := by omega
  have hp : p ≤ l.length := by omega
  obtain ⟨k, hkk⟩ : ∃ d, l[p]? = some d := ⟨_, List.getElem?_eq_getElem hlt⟩
  have hdr : l.drop p = k :: l.drop (p + 1) := by rw [List.drop_eq_getElem_cons hlt, (List.getElem?_eq_some_iff.1 hkk).2]
  have hk8 := k.toNat_lt
  obtain ⟨b, off, rfl, hbS, hcd⟩ : ∃ b off, a = some ⟨b, off, none⟩ ∧ b < w.heap.size ∧ ∀ (j : Nat) (c : UInt8), l[j]? = some c → w.cell? ⟨b, off + j, none⟩ = some (.int .u8 c.toNat) := by
    rcases hcell.out with hn | ⟨b, off, h1, h2, h3⟩
    · subst hn; simp at hlt
    · exact ⟨b, off, h1, h2, h3⟩
  have hd0 := hcd p k hkk
  have hby := hid (fun (j : Nat) (c : UInt8) (hj : l[j]? = some c) (w' : World) (h : Below w.heap.size w w') => (h.cell (p := ⟨b, off + j, none⟩) hbS).trans (hcd j c hj))
  have e1 : IntKind.i64.wrap ((p : Int) + 1) = ((p + 1 : Nat) : Int) := by rw [IntWalk.i64_in _ (by omega)]; omega
  rw [hdr] at hR
  have hkn := hk k (l.drop (p + 1)) hdr
  obtain ⟨c, hc⟩ : ∃ c, c = k.toNat := ⟨_, rfl⟩
  rw [← hc] at hd0 hk8
  replace hR := hid hR
  have hkc := hid hc.symm
  rw [← hc] at hkn
  subst hkn
  clear hc hk hcd hkk hdr hcell
  obtain ⟨W3, hW3⟩ : ∃ W3, W3 = ((w.alloc (.cells #[.int .i64 0, .int .i64 0, .string ⟨#[]⟩, .slice none 0 0, .slice none 0 0] 25)).alloc (.cells #[.int .i64 0, .int .i64 0, .string ⟨#[]⟩, .slice none 0 0, .slice none 0 0] 25)).alloc (.cells #[.int .i64 6, .int .i64 0, .string ⟨#[]⟩, .slice none 0 0, .slice none 0 0] 25) := ⟨_, rfl⟩
  have hv : Hid (VT w #[.int .i64 6, .int .i64 0, .string ⟨#[]⟩, .slice none 0 0, .slice none 0 0] W3) := by
    rw [hW3]
    exact ⟨al_old (al_old (al_at rfl)), al_old (al_at (by simp)), al_at (by simp), ((below_new _ _).step (below_new _ _)).step (below_new _ _)⟩
  go_enter Tryd.func75, Tryd.ntmps75
  go_upto_region 5 with fail
  rw [← hW3]
  clear hW3
  have c60 := box_at (j := 0) hv.out.r6 rfl
  have c61 := box_at (j := 1) hv.out.r6 rfl
  have c62 := box_at (j := 2) hv.out.r6 rfl
  have c63 := box_at (j := 3) hv.out.r6 rfl
  have c64 := box_at (j := 4) hv.out.r6 rfl
  have c90 := box_at (j := 0) hv.out.r9 rfl
  have c91 := box_at (j := 1) hv.out.r9 rfl
  have c92 := box_at (j := 2) hv.out.r9 rfl
  have c93 := box_at (j := 3) hv.out.r9 rfl
  have c94 := box_at (j := 4) hv.out.r9 rfl
  have cA0 := box_at (j := 0) hv.out.r10 rfl
  have cA1 := box_at (j := 1) hv.out.r10 rfl
  have cA2 := box_at (j := 2) hv.out.r10 rfl
  have cA3 := box_at (j := 3) hv.out.r10 rfl
  have cA4 := box_at (j := 4) hv.out.r10 rfl
  have f6 := box_free hv.out.r6
  have fA := box_free hv.out.r10
  have dd : (d : Int) < 8 := by omega
  have dd' : ¬ 8 ≤ (d : Int) := by omega
  have e9 : IntKind.i64.wrap ((d : Int) + 1) = ((d + 1 : Nat) : Int) := by rw [IntWalk.i64_in _ (by omega)]; omega
  have hnum := hid (rnumber_calls (hb0.out.later hv.out.below) (by omega) (p + 1) hlt)
  obtain ⟨N, hN⟩ : ∃ N, N = numR 0 0 (l.drop (p + 1)) := ⟨_, rfl⟩
  have hRR := hR.out.trans (head_6 hkc.out)
  unfold manyR at hRR
  rw [← hN] at hRR hnum
  cases N with
  | bad x =>
    have hx := numR_pos _ _ _ _ hN.symm
    have hx0 : (x != 0) = true := by simp; omega
    have hx1 : ¬ x = 0 := by omega
    simp only at hRR
    replace hRR := hid hRR
    clear hN
    go_wp2_with fail
    refine hnum.out.mono ?_
    rintro e w4 ⟨rfl, rfl⟩
    go_wp2_with fail
    obtain ⟨rz, hz⟩ := hv.out.zero
    generalize (((((W3.setCell ⟨w.heap.size, 0, none⟩ (.int .i64 0)).setCell ⟨w.heap.size, 1, none⟩ (.int .i64 0)).setCell ⟨w.heap.size, 2, none⟩ (.string ByteArray.empty)).setCell ⟨w.heap.size, 3, none⟩ (.slice none 0 0)).setCell ⟨w.heap.size, 4, none⟩ (.slice none 0 0)) = w9 at *
    exact rt_bad rfl rfl rfl rfl rz hRR.out hz
  | ok n j =>
    have hnj := (num_inv hN.symm).2.2.2.2
    rw [List.length_drop] at hnj
    have hn64 := (num_inv hN.symm).1
    simp only at hRR
    clear hN
    by_cases hbig : 32 < n
    · rw [if_pos hbig] at hRR
      replace hRR := hid hRR
      have q1 : 32 < (n : Int) := by omega
      go_wp2_with fail
      refine hnum.out.mono ?_
      rintro e w4 ⟨rfl, rfl⟩
      go_wp2_with fail
      obtain ⟨rz, hz⟩ := hv.out.zero
      generalize (((((W3.setCell ⟨w.heap.size, 0, none⟩ (.int .i64 0)).setCell ⟨w.heap.size, 1, none⟩ (.int .i64 0)).setCell ⟨w.heap.size, 2, none⟩ (.string ByteArray.empty)).setCell ⟨w.heap.size, 3, none⟩ (.slice none 0 0)).setCell ⟨w.heap.size, 4, none⟩ (.slice none 0 0)) = w9 at *
      exact rt_bad rfl rfl rfl rfl rz hRR.out hz
    rw [if_neg hbig] at hRR
    have q1 : ¬ 32 < (n : Int) := by omega
    have hn32 := hid (show n ≤ 32 by omega)
    have en : IntKind.i64.wrap (n : Int) = n := IntWalk.i64_in _ (by omega)
    simp only at hRR
    rw [List.drop_drop] at hRR
    obtain ⟨G, hG⟩ : ∃ G, G = fieldsR f n ByteArray.empty (l.drop (p + 1 + j)) := ⟨_, rfl⟩
    rw [← hG] at hRR
    replace hRR := hid hRR
    have hgo : Hid (Go2 G [] 0 (fieldsR f n ByteArray.empty (l.drop (p + 1 + j)))) := by
      show Go2 _ _ _ _
      rw [← hG]; exact go2_start G
    clear hG
    obtain ⟨i0, hi, hz0, hz1, hz2⟩ := info_parts info_fld
    go_wp2_with fail
    refine hnum.out.mono ?_
    rintro e w4 ⟨rfl, rfl⟩
    go_wp2_with fail
    go_loopg [1, 16] n (fun gh at_ i wr => ∃ (m c : Nat) (fs : Flds) (vs : Value) (last : ByteArray), gh + m = n ∧ fs.length = m ∧ p + 1 + j + c ≤ l.length ∧ i = .int .i64 m ∧ at_ = .int .i64 ((p + 1 + j + c : Nat) : Int) ∧ Hid (Go2 G fs c (fieldsR f (n - m) last (l.drop (p + 1 + j + c)))) ∧ Hid ((m = 0 ∧ last = ByteArray.empty) ∨ ∃ fs' x, fs = fs' ++ [(last, x)]) ∧ Hid (VT w #[.int .i64 6, .int .i64 0, .string ⟨#[]⟩, .slice none 0 0, vs] wr) ∧ Hid (OwnG RdFl 6 (w.heap.size + 3) (w.heap.size + 3) 50 wr fs vs))
    case atStart => exact ⟨0, 0, [], .slice none 0 0, ByteArray.empty, by omega, rfl, by omega, rfl, by simp, hgo, .inl ⟨rfl, rfl⟩, hv, OwnG.nil _⟩
    case round =>
      obtain ⟨m, c, fs, vs, last, hmn, hxl, hpc, rfl, rfl, hgo, hlast, hvr, hown⟩ := hrel
      clear c60 c61 c62 c63 c64 c90 c91 c92 c93 c94 cA0 cA1 cA2 cA3 cA4 f6 fA hnum
      have c60 := box_at (j := 0) hvr.out.r6 rfl
      have c61 := box_at (j := 1) hvr.out.r6 rfl
      have c62 := box_at (j := 2) hvr.out.r6 rfl
      have c63 := box_at (j := 3) hvr.out.r6 rfl
      have c64 := box_at (j := 4) hvr.out.r6 rfl
      have c90 := box_at (j := 0) hvr.out.r9 rfl
      have c91 := box_at (j := 1) hvr.out.r9 rfl
      have c92 := box_at (j := 2) hvr.out.r9 rfl
      have c93 := box_at (j := 3) hvr.out.r9 rfl
      have c94 := box_at (j := 4) hvr.out.r9 rfl
      have cA0 := box_at (j := 0) hvr.out.r10 rfl
      have cA1 := box_at (j := 1) hvr.out.r10 rfl
      have cA2 := box_at (j := 2) hvr.out.r10 rfl
      have cA3 := box_at (j := 3) hvr.out.r10 rfl
      have cA4 := box_at (j := 4) hvr.out.r10 rfl
      have f6 := box_free hvr.out.r6
      have fA := box_free hvr.out.r10
      by_cases hlt2 : m < n
      · rw [show n - m = (n - (m + 1)) + 1 by omega] at hgo
        have hst := go2_step hgo.out
        unfold strR at hst
        have hnu := hid (rnumber_calls (hb0.out.later hvr.out.below) (by omega) (p + 1 + j + c) hpc)
        obtain ⟨M, hM⟩ : ∃ M, M = numR 0 0 (l.drop (p + 1 + j + c)) := ⟨_, rfl⟩
        rw [← hM] at hst hnu
        cases M with
        | bad x =>
          have hx := numR_pos _ _ _ _ hM.symm
          have hx0 : (x != 0) = true := by simp; omega
          have hx1 : ¬ x = 0 := by omega
          simp only at hst
          replace hRR : Hid (R = .bad x) := by show _ = _; rw [hRR.out, hst]
          clear hM hst hgo
          go_wp2_with fail
          refine hnu.out.mono ?_
          rintro e w4 ⟨rfl, rfl⟩
          go_wp2_with fail
          obtain ⟨rz, hz⟩ := hvr.out.zero
          generalize (((((wr.setCell ⟨w.heap.size, 0, none⟩ (.int .i64 0)).setCell ⟨w.heap.size, 1, none⟩ (.int .i64 0)).setCell ⟨w.heap.size, 2, none⟩ (.string ByteArray.empty)).setCell ⟨w.heap.size, 3, none⟩ (.slice none 0 0)).setCell ⟨w.heap.size, 4, none⟩ (.slice none 0 0)) = w9 at *
          exact rt_bad rfl rfl rfl rfl rz hRR.out hz
        | ok nn cc =>
        have hncc := (num_inv hM.symm).2.2.2.2
        have hnn64 := (num_inv hM.symm).1
        rw [List.length_drop] at hncc
        simp only at hst
        clear hM
        by_cases hlim : nn < 1 ∨ 24 < nn
        · rw [if_pos hlim] at hst
          simp only at hst
          replace hRR : Hid (R = .bad 15) := by show _ = _; rw [hRR.out, hst]
          clear hst hgo
          rcases hlim with h1 | h1
          · have h1' : (nn : Int) < 1 := by omega
            go_wp2_with fail
            refine hnu.out.mono ?_
            rintro e w4 ⟨rfl, rfl⟩
            go_wp2_with fail
            obtain ⟨rz, hz⟩ := hvr.out.zero
            generalize (((((wr.setCell ⟨w.heap.size, 0, none⟩ (.int .i64 0)).setCell ⟨w.heap.size, 1, none⟩ (.int .i64 0)).setCell ⟨w.heap.size, 2, none⟩ (.string ByteArray.empty)).setCell ⟨w.heap.size, 3, none⟩ (.slice none 0 0)).setCell ⟨w.heap.size, 4, none⟩ (.slice none 0 0)) = w9 at *
            exact rt_bad rfl rfl rfl rfl rz hRR.out hz
          · have h1' : 24 < (nn : Int) := by omega
            have h2' : ¬ (nn : Int) < 1 := by omega
            go_wp2_with fail
            refine hnu.out.mono ?_
            rintro e w4 ⟨rfl, rfl⟩
            go_wp2_with fail
            obtain ⟨rz, hz⟩ := hvr.out.zero
            generalize (((((wr.setCell ⟨w.heap.size, 0, none⟩ (.int .i64 0)).setCell ⟨w.heap.size, 1, none⟩ (.int .i64 0)).setCell ⟨w.heap.size, 2, none⟩ (.string ByteArray.empty)).setCell ⟨w.heap.size, 3, none⟩ (.slice none 0 0)).setCell ⟨w.heap.size, 4, none⟩ (.slice none 0 0)) = w9 at *
            exact rt_bad rfl rfl rfl rfl rz hRR.out hz
        rw [if_neg hlim] at hst
        have l1 : ¬ (nn : Int) < 1 := by omega
        have l2 : ¬ 24 < (nn : Int) := by omega
        have l3 : ¬ nn < 1 := by omega
        have l4 : ¬ 24 < nn := by omega
        rw [List.drop_drop] at hst
        have hch := hid (chunk_calls (hb0.out.later hvr.out.below) hl (p + 1 + j + c + cc) (by omega) nn hnn64)
        cases hX : txtR nn (l.drop (p + 1 + j + c + cc)) with
        | bad x =>
          rw [hX] at hst hch
          have hx := txtR_pos hX
          have hx0 : (x != 0) = true := by simp; omega
          have hx1 : ¬ x = 0 := by omega
          simp only at hst
          replace hRR : Hid (R = .bad x) := by show _ = _; rw [hRR.out, hst]
          clear hX hst hgo
          go_wp2_with fail
          refine hnu.out.mono ?_
          rintro e w4 ⟨rfl, rfl⟩
          go_wp2_with fail
          refine hch.out.mono ?_
          rintro e w5 ⟨h5, rfl⟩
          have hv5 := hid (hvr.out.later h5)
          clear c60 c61 c62 c63 c64 c90 c91 c92 c93 c94 cA0 cA1 cA2 cA3 cA4 f6 fA
          have c60 := box_at (j := 0) hv5.out.r6 rfl
          have c61 := box_at (j := 1) hv5.out.r6 rfl
          have c62 := box_at (j := 2) hv5.out.r6 rfl
          have c63 := box_at (j := 3) hv5.out.r6 rfl
          have c64 := box_at (j := 4) hv5.out.r6 rfl
          have c90 := box_at (j := 0) hv5.out.r9 rfl
          have c91 := box_at (j := 1) hv5.out.r9 rfl
          have c92 := box_at (j := 2) hv5.out.r9 rfl
          have c93 := box_at (j := 3) hv5.out.r9 rfl
          have c94 := box_at (j := 4) hv5.out.r9 rfl
          have cA0 := box_at (j := 0) hv5.out.r10 rfl
          have cA1 := box_at (j := 1) hv5.out.r10 rfl
          have cA2 := box_at (j := 2) hv5.out.r10 rfl
          have cA3 := box_at (j := 3) hv5.out.r10 rfl
          have cA4 := box_at (j := 4) hv5.out.r10 rfl
          have f6 := box_free hv5.out.r6
          have fA := box_free hv5.out.r10
          go_wp2_with fail
          obtain ⟨rz, hz⟩ := hv5.out.zero
          generalize (((((w5.setCell ⟨w.heap.size, 0, none⟩ (.int .i64 0)).setCell ⟨w.heap.size, 1, none⟩ (.int .i64 0)).setCell ⟨w.heap.size, 2, none⟩ (.string ByteArray.empty)).setCell ⟨w.heap.size, 3, none⟩ (.slice none 0 0)).setCell ⟨w.heap.size, 4, none⟩ (.slice none 0 0)) = w9 at *
          exact rt_bad rfl rfl rfl rfl rz hRR.out hz
        | ok nm kk =>
        rw [hX] at hst hch
        have hns := hid (txt_size hX)
        have hkk : kk = nn ∧ nn ≤ l.length - (p + 1 + j + c + cc) := by
          unfold txtR at hX
          split at hX
          · cases hX
          rename_i h1
          split at hX
          · cases hX
          injection hX with _ h2
          rw [List.length_drop] at h1
          omega
        simp only at hst
        clear hX
        have hc5 := hid (fun (w5 : World) (h5 : Below wr.heap.size wr w5) => last_cell hlast.out hxl (hown.out.later fldRel h5))
        by_cases hord : blt last nm = false
        · rw [if_pos hord] at hst
          replace hRR : Hid (R = .bad 4) := by show _ = _; rw [hRR.out, hst]
          clear hst hgo
          go_wp2_with fail
          refine hnu.out.mono ?_
          rintro e w4 ⟨rfl, rfl⟩
          go_wp2_with fail
          refine hch.out.mono ?_
          rintro e w5 ⟨h5, rfl⟩
          have hv5 := hid (hvr.out.later h5)
          rcases hc5.out w5 h5 with ⟨_, h0⟩ | ⟨m', g, gc, rfl, rfl, hgc, hgl, hlc⟩
          · rw [h0, blt_empty (by rw [hns.out]; omega)] at hord; cases hord
          have e3 : IntKind.i64.wrap (((m' + 1 : Nat) : Int) - 1) = (m' : Int) := by rw [IntWalk.i64_in _ (by have := hn32.out; omega)]; omega
          have e4 : IntKind.i64.wrap ((m' : Int) + 1 - 1) = (m' : Int) := by rw [IntWalk.i64_in _ (by have := hn32.out; omega)]; omega
          have e6 : (0 : Int) < ((m' + 1 : Nat) : Int) := by omega
          have e7 : (0 : Int) < (m' : Int) + 1 := by omega
          have e8 : (m' : Int) < ((m' + 1 : Nat) : Int) := by omega
          have e10 : (m' : Int) < (m' : Int) + 1 := by omega
          have hbt : Op.bytesLess last.toList nm.toList = false := hord
          clear c60 c61 c62 c63 c64 c90 c91 c92 c93 c94 cA0 cA1 cA2 cA3 cA4 f6 fA
          have c60 := box_at (j := 0) hv5.out.r6 rfl
          have c61 := box_at (j := 1) hv5.out.r6 rfl
          have c62 := box_at (j := 2) hv5.out.r6 rfl
          have c63 := box_at (j := 3) hv5.out.r6 rfl
          have c64 := box_at (j := 4) hv5.out.r6 rfl
          have c90 := box_at (j := 0) hv5.out.r9 rfl
          have c91 := box_at (j := 1) hv5.out.r9 rfl
          have c92 := box_at (j := 2) hv5.out.r9 rfl
          have c93 := box_at (j := 3) hv5.out.r9 rfl
          have c94 := box_at (j := 4) hv5.out.r9 rfl
          have cA0 := box_at (j := 0) hv5.out.r10 rfl
          have cA1 := box_at (j := 1) hv5.out.r10 rfl
          have cA2 := box_at (j := 2) hv5.out.r10 rfl
          have cA3 := box_at (j := 3) hv5.out.r10 rfl
          have cA4 := box_at (j := 4) hv5.out.r10 rfl
          have f6 := box_free hv5.out.r6
          have fA := box_free hv5.out.r10
          go_wp2_with fail
          obtain ⟨rz, hz⟩ := hv5.out.zero
          generalize (((((w5.setCell ⟨w.heap.size, 0, none⟩ (.int .i64 0)).setCell ⟨w.heap.size, 1, none⟩ (.int .i64 0)).setCell ⟨w.heap.size, 2, none⟩ (.string ByteArray.empty)).setCell ⟨w.heap.size, 3, none⟩ (.slice none 0 0)).setCell ⟨w.heap.size, 4, none⟩ (.slice none 0 0)) = w9 at *
          exact rt_bad rfl rfl rfl rfl rz hRR.out hz
        rw [if_neg hord] at hst
        have hbt : Op.bytesLess last.toList nm.toList = true := by unfold blt at hord; simpa using hord
        obtain ⟨rfl, hkl⟩ := hkk
        simp only [List.drop_drop] at hst
        rw [show p + 1 + j + c + (cc + kk) = p + 1 + j + c + cc + kk by omega] at hst
        have hst2 := hid hst
        clear hord hst hgo
        go_wp2_with fail
        refine hnu.out.mono ?_
        rintro e w4 ⟨rfl, rfl⟩
        go_wp2_with fail
        refine hch.out.mono ?_
        rintro e w5 ⟨h5, rfl⟩
        have hv5 := hid (hvr.out.later h5)
        have hown5 := hid (hown.out.later fldRel h5)
        have hc := hid (ih.out w5 hv5.out.below (p + 1 + j + c + cc + kk) (by omega))
        have hsz5 := hid h5.size
        have e4 : m ≠ 0 → IntKind.i64.wrap ((m : Int) - 1) = (m : Int) - 1 := fun h => IntWalk.i64_in _ (by have := hn32.out; omega)
        clear c60 c61 c62 c63 c64 c90 c91 c92 c93 c94 cA0 cA1 cA2 cA3 cA4 f6 fA
        rcases hc5.out w5 h5 with ⟨h0, _⟩ | ⟨m', g, gc, hm', hvs, hgc, hgl, hlc⟩
        all_goals first
          | (have e6 : ¬ (0 : Int) < (m : Int) := by omega
             replace h0 := hid h0
             clear e4 h5
             have c60 := box_at (j := 0) hv5.out.r6 rfl
             have c61 := box_at (j := 1) hv5.out.r6 rfl
             have c62 := box_at (j := 2) hv5.out.r6 rfl
             have c63 := box_at (j := 3) hv5.out.r6 rfl
             have c64 := box_at (j := 4) hv5.out.r6 rfl
             have c90 := box_at (j := 0) hv5.out.r9 rfl
             have c91 := box_at (j := 1) hv5.out.r9 rfl
             have c92 := box_at (j := 2) hv5.out.r9 rfl
             have c93 := box_at (j := 3) hv5.out.r9 rfl
             have c94 := box_at (j := 4) hv5.out.r9 rfl
             have cA0 := box_at (j := 0) hv5.out.r10 rfl
             have cA1 := box_at (j := 1) hv5.out.r10 rfl
             have cA2 := box_at (j := 2) hv5.out.r10 rfl
             have cA3 := box_at (j := 3) hv5.out.r10 rfl
             have cA4 := box_at (j := 4) hv5.out.r10 rfl
             have f6 := box_free hv5.out.r6
             have fA := box_free hv5.out.r10
             go_upto_region 54 with fail)
          | (have e5 : IntKind.i64.wrap ((m : Int) - 1) = (m' : Int) := by rw [e4 (by omega)]; omega
             clear e4 h5
             have e6 : (0 : Int) < (m : Int) := by omega
             have e8 : (m' : Int) < ((m' + 1 : Nat) : Int) := by omega
             have e10 : (m' : Int) < (m' : Int) + 1 := by omega
             have c60 := box_at (j := 0) hv5.out.r6 rfl
             have c61 := box_at (j := 1) hv5.out.r6 rfl
             have c62 := box_at (j := 2) hv5.out.r6 rfl
             have c63 := box_at (j := 3) hv5.out.r6 rfl
             have c64 := box_at (j := 4) hv5.out.r6 rfl
             have c90 := box_at (j := 0) hv5.out.r9 rfl
             have c91 := box_at (j := 1) hv5.out.r9 rfl
             have c92 := box_at (j := 2) hv5.out.r9 rfl
             have c93 := box_at (j := 3) hv5.out.r9 rfl
             have c94 := box_at (j := 4) hv5.out.r9 rfl
             have cA0 := box_at (j := 0) hv5.out.r10 rfl
             have cA1 := box_at (j := 1) hv5.out.r10 rfl
             have cA2 := box_at (j := 2) hv5.out.r10 rfl
             have cA3 := box_at (j := 3) hv5.out.r10 rfl
             have cA4 := box_at (j := 4) hv5.out.r10 rfl
             have f6 := box_free hv5.out.r6
             have fA := box_free hv5.out.r10
             rw [hvs] at cA4
             replace hvs := hid hvs
             replace hm' := hid hm'
             go_upto_region 54 with fail)
        all_goals
          clear c60 c61 c62 c63 c64 c90 c91 c92 c93 c94 cA0 cA1 cA2 cA3 cA4 f6 fA
          cases hf : f (l.drop (p + 1 + j + c + cc + kk)) with
          | bad x =>
            rw [hf] at hst2 hc
            have hx := hfp _ _ hf
            have hx0 : (x != 0) = true := by simp; omega
            have hx1 : ¬ x = 0 := by omega
            replace hRR : Hid (R = .bad x) := by show _ = _; rw [hRR.out, hst2.out]
            clear hf hst2
            go_wp2_with fail
            refine hc.out.mono ?_
            rintro e w6 ⟨h6, rfl⟩
            unfold none5
            have hv7 := hid (hv5.out.later (h6.step (below_new w6 (.cells #[.int .i64 0, .int .i64 0, .string ByteArray.empty, .slice none 0 0, .slice none 0 0] 25))))
            go_upto_region 55 with fail
            generalize w6.alloc (.cells #[.int .i64 0, .int .i64 0, .string ByteArray.empty, .slice none 0 0, .slice none 0 0] 25) = w7 at *
            have c60 := box_at (j := 0) hv7.out.r6 rfl
            have c61 := box_at (j := 1) hv7.out.r6 rfl
            have c62 := box_at (j := 2) hv7.out.r6 rfl
            have c63 := box_at (j := 3) hv7.out.r6 rfl
            have c64 := box_at (j := 4) hv7.out.r6 rfl
            have c90 := box_at (j := 0) hv7.out.r9 rfl
            have c91 := box_at (j := 1) hv7.out.r9 rfl
            have c92 := box_at (j := 2) hv7.out.r9 rfl
            have c93 := box_at (j := 3) hv7.out.r9 rfl
            have c94 := box_at (j := 4) hv7.out.r9 rfl
            have cA0 := box_at (j := 0) hv7.out.r10 rfl
            have cA1 := box_at (j := 1) hv7.out.r10 rfl
            have cA2 := box_at (j := 2) hv7.out.r10 rfl
            have cA3 := box_at (j := 3) hv7.out.r10 rfl
            have cA4 := box_at (j := 4) hv7.out.r10 rfl
            have f6 := box_free hv7.out.r6
            have fA := box_free hv7.out.r10
            go_wp2_with fail
            obtain ⟨rz, hz⟩ := hv7.out.zero
            generalize (((((w7.setCell ⟨w.heap.size, 0, none⟩ (.int .i64 0)).setCell ⟨w.heap.size, 1, none⟩ (.int .i64 0)).setCell ⟨w.heap.size, 2, none⟩ (.string ByteArray.empty)).setCell ⟨w.heap.size, 3, none⟩ (.slice none 0 0)).setCell ⟨w.heap.size, 4, none⟩ (.slice none 0 0)) = w9 at *
            exact rt_bad rfl rfl rfl rfl rz hRR.out hz
          | ok x k =>
            rw [hf] at hst2 hc
            have hke := hfe _ _ _ hf
            rw [List.length_drop] at hke
            clear hf
            obtain ⟨xk, xn, xt, xl, xfn, xfv⟩ := x
            go_wp2_with fail
            refine hc.out.mono ?_
            rintro e w6 ⟨h6, cs6, rfl, hr6⟩
            obtain ⟨ya, yc, za, zc, rfl, _⟩ := hr6.inv
            have hv7 := hid (hv5.out.later (h6.step (below_new w6 (.cells #[.int .i64 xk, .int .i64 xn, .string xt, .slice ya xl.length yc, .slice za xfv.length zc] 25))))
            have hown7 := hid (hown5.out.later fldRel (h6.step (below_new w6 (.cells #[.int .i64 xk, .int .i64 xn, .string xt, .slice ya xl.length yc, .slice za xfv.length zc] 25))))
            have r21 := hid (heap_alloc_new w6 (.cells #[.int .i64 xk, .int .i64 xn, .string xt, .slice ya xl.length yc, .slice za xfv.length zc] 25))
            have hX7 : Hid (Rd (w6.alloc (.cells #[.int .i64 xk, .int .i64 xn, .string xt, .slice ya xl.length yc, .slice za xfv.length zc] 25)) (Apart (w.heap.size + 3) (w6.alloc (.cells #[.int .i64 xk, .int .i64 xn, .string xt, .slice ya xl.length yc, .slice za xfv.length zc] 25)) vs) (.mk xk xn xt xl xfn xfv) [.int .i64 xk, .int .i64 xn, .string xt, .slice ya xl.length yc, .slice za xfv.length zc]) :=
              hr6.keep (fun b hb => ⟨by have := hb.1; have := lt_of_block hv5.out.r10; omega, by have := hb.2; simp; omega, fun e => by have := (hown5.out.lt b e).2; have := hb.1; omega⟩) (fun b hb => (below_new w6 (.cells #[.int .i64 xk, .int .i64 xn, .string xt, .slice ya xl.length yc, .slice za xfv.length zc] 25)).block b hb.2)
            have hB7 : Hid (w.heap.size + 3 ≤ (w6.alloc (.cells #[.int .i64 xk, .int .i64 xn, .string xt, .slice ya xl.length yc, .slice za xfv.length zc] 25)).heap.size) := by have := lt_of_block hv7.out.r10; show _ ≤ _; omega
            clear hr6 h6
            go_upto_region 55 with fail
            obtain ⟨w7, hw7⟩ : ∃ w7, w7 = w6.alloc (.cells #[.int .i64 xk, .int .i64 xn, .string xt, .slice ya xl.length yc, .slice za xfv.length zc] 25) := ⟨_, rfl⟩
            rw [← hw7] at hv7 hown7 r21 hX7 hB7 ⊢
            clear hw7
            have t0 := box_at (j := 0) r21.out rfl
            have t1 := box_at (j := 1) r21.out rfl
            have t2 := box_at (j := 2) r21.out rfl
            have t3 := box_at (j := 3) r21.out rfl
            have t4 := box_at (j := 4) r21.out rfl
            have c60 := box_at (j := 0) hv7.out.r6 rfl
            have c61 := box_at (j := 1) hv7.out.r6 rfl
            have c62 := box_at (j := 2) hv7.out.r6 rfl
            have c63 := box_at (j := 3) hv7.out.r6 rfl
            have c64 := box_at (j := 4) hv7.out.r6 rfl
            have c90 := box_at (j := 0) hv7.out.r9 rfl
            have c91 := box_at (j := 1) hv7.out.r9 rfl
            have c92 := box_at (j := 2) hv7.out.r9 rfl
            have c93 := box_at (j := 3) hv7.out.r9 rfl
            have c94 := box_at (j := 4) hv7.out.r9 rfl
            have cA0 := box_at (j := 0) hv7.out.r10 rfl
            have cA1 := box_at (j := 1) hv7.out.r10 rfl
            have cA2 := box_at (j := 2) hv7.out.r10 rfl
            have cA3 := box_at (j := 3) hv7.out.r10 rfl
            have cA4 := box_at (j := 4) hv7.out.r10 rfl
            have f6 := box_free hv7.out.r6
            have fA := box_free hv7.out.r10
            have hv8 := hid (hv7.out.later (below_new w7 (.cells #[.string nm, .int .i64 xk, .int .i64 xn, .string xt, .slice ya xl.length yc, .slice za xfv.length zc] 50)))
            have hown8 := hid (hown7.out.later fldRel (below_new w7 (.cells #[.string nm, .int .i64 xk, .int .i64 xn, .string xt, .slice ya xl.length yc, .slice za xfv.length zc] 50)))
            have hX8 : Hid (RdFl (w7.alloc (.cells #[.string nm, .int .i64 xk, .int .i64 xn, .string xt, .slice ya xl.length yc, .slice za xfv.length zc] 50)) (Apart (w.heap.size + 3) (w7.alloc (.cells #[.string nm, .int .i64 xk, .int .i64 xn, .string xt, .slice ya xl.length yc, .slice za xfv.length zc] 50)) vs) (nm, .mk xk xn xt xl xfn xfv) [.string nm, .int .i64 xk, .int .i64 xn, .string xt, .slice ya xl.length yc, .slice za xfv.length zc]) :=
              ⟨_, rfl, by show nm.size ≤ _; rw [hns.out]; omega, hX7.out.keep (fun b hb => ⟨hb.1, by have := hb.2.1; simp; omega, hb.2.2⟩) (fun b hb => (below_new w7 (.cells #[.string nm, .int .i64 xk, .int .i64 xn, .string xt, .slice ya xl.length yc, .slice za xfv.length zc] 50)).block b hb.2.1)⟩
            have hB8 : Hid (w.heap.size + 3 ≤ (w7.alloc (.cells #[.string nm, .int .i64 xk, .int .i64 xn, .string xt, .slice ya xl.length yc, .slice za xfv.length zc] 50)).heap.size) := by have := hB7.out; show _ ≤ _; simp; omega
            go_wp2_with (first
              | (at_builtin; (refine wpList_append_g fldRel _ rfl _ _ 23 rfl (w.heap.size + 3) (w.heap.size + 3) 50 96 i0 _ Tryd.underlying23 hi hz0 hz1 hz2 rfl (by decide) fs vs rfl hown8.out ⟨w7.heap.size, 0, none⟩ 1 [.string nm, .int .i64 xk, .int .i64 xn, .string xt, .slice ya xl.length yc, .slice za xfv.length zc] (nm, .mk xk xn xt xl xfn xfv) rfl (cells_new _ _ rfl _ _) hX8.out (by have := hn32.out; omega) (by have := hn32.out; unfold maxLen; omega) hB8.out ?_); intro v9 w9 hown9 hg9 hlow9 hst9; obtain ⟨a9, m9, n9, rfl⟩ := own_slice hown9; have hb9 := hid (grown_from hown8.out hg9 hB8.out); have hv9 := hid (hv8.out.from3 hb9.out); have cA4 := box_at (j := 4) hv9.out.r10 rfl; have fA := box_free hv9.out.r10))
            have hv10 := hid (hv9.out.set 4 (.slice a9 m9 n9))
            have ho10 := hid (hown9.box fldRel ⟨w.heap.size + 1 + 1, 4, none⟩ (.slice a9 m9 n9) (fun e => absurd (hown9.lt _ e).1 (by show ¬ (w.heap.size + 3 ≤ w.heap.size + 1 + 1); omega)) (by show w.heap.size + 1 + 1 < w.heap.size + 3; omega))
            clear cA4 fA
            generalize w9.setCell ⟨w.heap.size + 1 + 1, 4, none⟩ (.slice a9 m9 n9) = w10 at *
            replace hv10 : Hid (VT w #[.int .i64 6, .int .i64 0, .string ⟨#[]⟩, .slice none 0 0, .slice a9 m9 n9] w10) := hv10
            have eP : p + 1 + j + (c + (cc + kk) + k) = p + 1 + j + c + (cc + kk + k) := by omega
            go_roundg (n - (m + 1))
            case measure => omega
            case rel => exact ⟨m + 1, c + (cc + kk) + k, _, .slice a9 m9 n9, nm, by omega, by simp [hxl], by omega, by go_num, by simp; omega, by show Go2 _ _ _ _; rw [eP]; exact hst2.out, .inr ⟨fs, _, rfl⟩, hv10, ho10⟩
      · obtain rfl : m = n := by omega
        rw [Nat.sub_self] at hgo
        have hG := go2_end hgo.out
        replace hRR : Hid (R = .ok (.mk 6 0 ByteArray.empty [] (fs.map Prod.fst) (fs.map Prod.snd)) (1 + (j + c))) := by show _ = _; rw [hRR.out, hG]; simp only; rw [Nat.add_assoc]
        clear hgo hG
        replace hxl := hid hxl
        obtain ⟨a9, n9, rfl, _⟩ := hown.out.form
        have hz := hid (set5_below hvr.out.below (Nat.le_refl _) (.int .i64 6) (.int .i64 0) (.string ⟨#[]⟩) (.slice none 0 0) (.slice a9 fs.length n9))
        have hrz := hid (set5_box (u0 := .int .i64 6) (u1 := .int .i64 0) (u2 := .string ⟨#[]⟩) (u3 := .slice none 0 0) (u4 := .slice a9 fs.length n9) hvr.out.r6)
        have hV := (rd_mk (k := 6) (n := 0) (s := ByteArray.empty) (l := []) ⟨by decide, by decide⟩ ⟨by decide, by decide⟩ (by decide) rdL_nil (hown.out.readF (S := From (w.heap.size + 3) wr) (fun b hb => hown.out.lt b hb) (fun b hb => ⟨hb.1, hb.2.1⟩) (by have := hn32.out; have := hxl.out; omega)))
        have hV9 : Hid (Rd (set5 wr w.heap.size (.int .i64 6) (.int .i64 0) (.string ⟨#[]⟩) (.slice none 0 0) (.slice a9 fs.length n9)) (From w.heap.size (set5 wr w.heap.size (.int .i64 6) (.int .i64 0) (.string ⟨#[]⟩) (.slice none 0 0) (.slice a9 fs.length n9))) (.mk 6 0 ByteArray.empty [] (fs.map Prod.fst) (fs.map Prod.snd)) [.int .i64 6, .int .i64 0, .string ByteArray.empty, .slice none 0 0, .slice a9 fs.length n9]) :=
          hV.keep (fun b hb => ⟨by have := hb.1; omega, by rw [set5_size]; exact hb.2⟩) (fun b hb => set5_other _ _ _ _ _ _ _ (by have := hb.1; omega))
        clear hV
        unfold set5 at hz hrz hV9
        go_wp2_with fail
        generalize ((((wr.setCell ⟨w.heap.size, 0, none⟩ (.int .i64 6)).setCell ⟨w.heap.size, 1, none⟩ (.int .i64 0)).setCell ⟨w.heap.size, 2, none⟩ (.string ⟨#[]⟩)).setCell ⟨w.heap.size, 3, none⟩ (.slice none 0 0)).setCell ⟨w.heap.size, 4, none⟩ (.slice a9 fs.length n9) = w9 at *
        exact rt_ok (n := 1 + (j + c)) rfl rfl (by simp; omega) rfl hrz.out hRR.out hz.out hV9.out
end Go.Proofs.YtihcegakghmdfaaDoor
