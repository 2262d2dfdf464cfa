/-
  Walk: the reference's take, a List that may be.
-/
import Derived.Test.YtihcegakghmdfaaDoorMgDec9
namespace Go.Proofs.YtihcegakghmdfaaDoor
open Go.RowKit Go.Proofs

theorem VT.from3 {w0 w w' : World} {cs : Array Value} (h : VT w0 cs w) (hb : Below (w0.heap.size + 3) w w') : VT w0 cs w' :=
  ⟨(hb.block _ (by omega)).trans h.r6, (hb.block _ (by omega)).trans h.r9, (hb.block _ (by omega)).trans h.r10, h.below.trans (hb.mono (by omega))⟩

set_option maxRecDepth 100000 in
set_option maxHeartbeats 2000000 in
theorem rtake_list (f : List UInt8 → Got PVal) (hfp : ∀ l c, f l = .bad c → 0 < c) (d : Nat) (hd8 : d < 8) {w : World} {bv : Value} {l : List UInt8} (hb : BytesAt w (Now w) l bv) (hl : l.length ≤ 35184372088832) (p : Nat) (hlt : p < l.length)
    (ih : ∀ (w' : World), Below w.heap.size w w' → ∀ p', p' ≤ l.length → Calls Tryd.prog 75 #[bv, .int .i64 p', .int .i64 ((d + 1 : Nat) : Int)] w' (RTk (f (l.drop p')) p' w'))
    (hfe : ∀ L V n, f L = .ok V n → n ≤ L.length)
    (hk : ∀ k r, l.drop p = k :: r → k.toNat = 5) :
    Calls Tryd.prog 75 #[bv, .int .i64 p, .int .i64 d] w (RTk (headR (some f) (l.drop p)) p w) := by
  obtain ⟨R, hR⟩ : ∃ R, R = headR (some f) (l.drop p) := ⟨_, rfl⟩
  rw [← hR]
  have hb0 := hid hb
  obtain ⟨a, cap, rfl, hc1, hc2, hcell⟩ := hb
  replace hcell := hid hcell
  replace ih := hid ih
  have hltI : (p : Int) < (l.length : Int) := by omega
  have hend : ¬ p = l.length := by omega
  have hp : p ≤ l.length := by omega
  obtain ⟨k, hkk⟩ : ∃ d, l[p]? = some d := ⟨_, List.getElem?_eq_getElem hlt⟩
  have hdr : l.drop p = k :: l.drop (p + 1) := by rw [List.drop_eq_getElem_cons hlt, (List.getElem?_eq_some_iff.1 hkk).2]
  have hk8 := k.toNat_lt
  obtain ⟨b, off, rfl, hbS, hcd⟩ : ∃ b off, a = some ⟨b, off, none⟩ ∧ b < w.heap.size ∧ ∀ (j : Nat) (c : UInt8), l[j]? = some c → w.cell? ⟨b, off + j, none⟩ = some (.int .u8 c.toNat) := by
    rcases hcell.out with hn | ⟨b, off, h1, h2, h3⟩
    · subst hn; simp at hlt
    · exact ⟨b, off, h1, h2, h3⟩
  have hd0 := hcd p k hkk
  have hby := hid (fun (j : Nat) (c : UInt8) (hj : l[j]? = some c) (w' : World) (h : Below w.heap.size w w') => (h.cell (p := ⟨b, off + j, none⟩) hbS).trans (hcd j c hj))
  have e1 : IntKind.i64.wrap ((p : Int) + 1) = ((p + 1 : Nat) : Int) := by rw [IntWalk.i64_in _ (by omega)]; omega
  rw [hdr] at hR
  have hkn := hk k (l.drop (p + 1)) hdr
  obtain ⟨c, hc⟩ : ∃ c, c = k.toNat := ⟨_, rfl⟩
  rw [← hc] at hd0 hk8
  replace hR := hid hR
  have hkc := hid hc.symm
  rw [← hc] at hkn
  subst hkn
  clear hc hk hcd hkk hdr hcell
  obtain ⟨W3, hW3⟩ : ∃ W3, W3 = ((w.alloc (.cells #[.int .i64 0, .int .i64 0, .string ⟨#[]⟩, .slice none 0 0, .slice none 0 0] 25)).alloc (.cells #[.int .i64 0, .int .i64 0, .string ⟨#[]⟩, .slice none 0 0, .slice none 0 0] 25)).alloc (.cells #[.int .i64 5, .int .i64 0, .string ⟨#[]⟩, .slice none 0 0, .slice none 0 0] 25) := ⟨_, rfl⟩
  have hv : Hid (VT w #[.int .i64 5, .int .i64 0, .string ⟨#[]⟩, .slice none 0 0, .slice none 0 0] W3) := by
    rw [hW3]
    exact ⟨al_old (al_old (al_at rfl)), al_old (al_at (by simp)), al_at (by simp), ((below_new _ _).step (below_new _ _)).step (below_new _ _)⟩
  go_enter Tryd.func75, Tryd.ntmps75
  go_upto_region 5 with fail
  rw [← hW3]
  clear hW3
  have c60 := box_at (j := 0) hv.out.r6 rfl
  have c61 := box_at (j := 1) hv.out.r6 rfl
  have c62 := box_at (j := 2) hv.out.r6 rfl
  have c63 := box_at (j := 3) hv.out.r6 rfl
  have c64 := box_at (j := 4) hv.out.r6 rfl
  have c90 := box_at (j := 0) hv.out.r9 rfl
  have c91 := box_at (j := 1) hv.out.r9 rfl
  have c92 := box_at (j := 2) hv.out.r9 rfl
  have c93 := box_at (j := 3) hv.out.r9 rfl
  have c94 := box_at (j := 4) hv.out.r9 rfl
  have cA0 := box_at (j := 0) hv.out.r10 rfl
  have cA1 := box_at (j := 1) hv.out.r10 rfl
  have cA2 := box_at (j := 2) hv.out.r10 rfl
  have cA3 := box_at (j := 3) hv.out.r10 rfl
  have cA4 := box_at (j := 4) hv.out.r10 rfl
  have f6 := box_free hv.out.r6
  have fA := box_free hv.out.r10
  have dd : (d : Int) < 8 := by omega
  have dd' : ¬ 8 ≤ (d : Int) := by omega
  have e9 : IntKind.i64.wrap ((d : Int) + 1) = ((d + 1 : Nat) : Int) := by rw [IntWalk.i64_in _ (by omega)]; omega
  have hnum := hid (rnumber_calls (hb0.out.later hv.out.below) (by omega) (p + 1) hlt)
  obtain ⟨N, hN⟩ : ∃ N, N = numR 0 0 (l.drop (p + 1)) := ⟨_, rfl⟩
  have hRR := hR.out.trans (head_5 hkc.out)
  unfold manyR at hRR
  rw [← hN] at hRR hnum
  cases N with
  | bad x =>
    have hx := numR_pos _ _ _ _ hN.symm
    have hx0 : (x != 0) = true := by simp; omega
    have hx1 : ¬ x = 0 := by omega
    simp only at hRR
    replace hRR := hid hRR
    clear hN
    go_wp2_with fail
    refine hnum.out.mono ?_
    rintro e w4 ⟨rfl, rfl⟩
    go_wp2_with fail
    obtain ⟨rz, hz⟩ := hv.out.zero
    generalize (((((W3.setCell ⟨w.heap.size, 0, none⟩ (.int .i64 0)).setCell ⟨w.heap.size, 1, none⟩ (.int .i64 0)).setCell ⟨w.heap.size, 2, none⟩ (.string ByteArray.empty)).setCell ⟨w.heap.size, 3, none⟩ (.slice none 0 0)).setCell ⟨w.heap.size, 4, none⟩ (.slice none 0 0)) = w9 at *
    exact rt_bad rfl rfl rfl rfl rz hRR.out hz
  | ok n j =>
    have hnj := (num_inv hN.symm).2.2.2.2
    rw [List.length_drop] at hnj
    have hn64 := (num_inv hN.symm).1
    simp only at hRR
    clear hN
    by_cases hbig : 32 < n
    · rw [if_pos hbig] at hRR
      replace hRR := hid hRR
      have q1 : 32 < (n : Int) := by omega
      go_wp2_with fail
      refine hnum.out.mono ?_
      rintro e w4 ⟨rfl, rfl⟩
      go_wp2_with fail
      obtain ⟨rz, hz⟩ := hv.out.zero
      generalize (((((W3.setCell ⟨w.heap.size, 0, none⟩ (.int .i64 0)).setCell ⟨w.heap.size, 1, none⟩ (.int .i64 0)).setCell ⟨w.heap.size, 2, none⟩ (.string ByteArray.empty)).setCell ⟨w.heap.size, 3, none⟩ (.slice none 0 0)).setCell ⟨w.heap.size, 4, none⟩ (.slice none 0 0)) = w9 at *
      exact rt_bad rfl rfl rfl rfl rz hRR.out hz
    rw [if_neg hbig] at hRR
    have q1 : ¬ 32 < (n : Int) := by omega
    have hn32 := hid (show n ≤ 32 by omega)
    have en : IntKind.i64.wrap (n : Int) = n := IntWalk.i64_in _ (by omega)
    simp only at hRR
    rw [List.drop_drop] at hRR
    obtain ⟨G, hG⟩ : ∃ G, G = listR f n (l.drop (p + 1 + j)) := ⟨_, rfl⟩
    rw [← hG] at hRR
    replace hRR := hid hRR
    have hgo : Hid (Go1 G [] 0 (listR f n (l.drop (p + 1 + j)))) := by
      show Go1 _ _ _ _
      rw [← hG]; exact go1_start G
    clear hG
    obtain ⟨i0, hi, hz0, hz1, hz2⟩ := info_parts info52
    go_wp2_with fail
    refine hnum.out.mono ?_
    rintro e w4 ⟨rfl, rfl⟩
    go_wp2_with fail
    go_loopg [1, 16] n (fun gh at_ i wr => ∃ (m c : Nat) (xs : List PVal) (vs : Value), gh + m = n ∧ xs.length = m ∧ p + 1 + j + c ≤ l.length ∧ i = .int .i64 m ∧ at_ = .int .i64 ((p + 1 + j + c : Nat) : Int) ∧ Hid (Go1 G xs c (listR f (n - m) (l.drop (p + 1 + j + c)))) ∧ Hid (VT w #[.int .i64 5, .int .i64 0, .string ⟨#[]⟩, vs, .slice none 0 0] wr) ∧ Hid (OwnG Rd 5 (w.heap.size + 3) (w.heap.size + 3) 25 wr xs vs))
    case atStart => exact ⟨0, 0, [], .slice none 0 0, by omega, rfl, by omega, rfl, by simp, hgo, hv, OwnG.nil _⟩
    case round =>
      obtain ⟨m, c, xs, vs, hmn, hxl, hpc, rfl, rfl, hgo, hvr, hown⟩ := hrel
      clear c60 c61 c62 c63 c64 c90 c91 c92 c93 c94 cA0 cA1 cA2 cA3 cA4 f6 fA hnum
      have c60 := box_at (j := 0) hvr.out.r6 rfl
      have c61 := box_at (j := 1) hvr.out.r6 rfl
      have c62 := box_at (j := 2) hvr.out.r6 rfl
      have c63 := box_at (j := 3) hvr.out.r6 rfl
      have c64 := box_at (j := 4) hvr.out.r6 rfl
      have c90 := box_at (j := 0) hvr.out.r9 rfl
      have c91 := box_at (j := 1) hvr.out.r9 rfl
      have c92 := box_at (j := 2) hvr.out.r9 rfl
      have c93 := box_at (j := 3) hvr.out.r9 rfl
      have c94 := box_at (j := 4) hvr.out.r9 rfl
      have cA0 := box_at (j := 0) hvr.out.r10 rfl
      have cA1 := box_at (j := 1) hvr.out.r10 rfl
      have cA2 := box_at (j := 2) hvr.out.r10 rfl
      have cA3 := box_at (j := 3) hvr.out.r10 rfl
      have cA4 := box_at (j := 4) hvr.out.r10 rfl
      have f6 := box_free hvr.out.r6
      have fA := box_free hvr.out.r10
      by_cases hlt2 : m < n
      · rw [show n - m = (n - (m + 1)) + 1 by omega] at hgo
        have hst := go1_step hgo.out
        have hc := ih.out wr hvr.out.below (p + 1 + j + c) hpc
        cases hf : f (l.drop (p + 1 + j + c)) with
        | bad x =>
          rw [hf] at hst hc
          have hx := hfp _ _ hf
          have hx0 : (x != 0) = true := by simp; omega
          have hx1 : ¬ x = 0 := by omega
          replace hRR : Hid (R = .bad x) := by show _ = _; rw [hRR.out, hst]
          replace hc := hid hc
          clear hf hgo hst
          go_wp2_with fail
          refine hc.out.mono ?_
          rintro e w6 ⟨h6, rfl⟩
          unfold none5
          have hv7 := hid (hvr.out.later (h6.step (below_new w6 (.cells #[.int .i64 0, .int .i64 0, .string ByteArray.empty, .slice none 0 0, .slice none 0 0] 25))))
          clear c60 c61 c62 c63 c64 c90 c91 c92 c93 c94 cA0 cA1 cA2 cA3 cA4 f6 fA
          go_upto_region 55 with fail
          generalize w6.alloc (.cells #[.int .i64 0, .int .i64 0, .string ByteArray.empty, .slice none 0 0, .slice none 0 0] 25) = w7 at *
          have c60 := box_at (j := 0) hv7.out.r6 rfl
          have c61 := box_at (j := 1) hv7.out.r6 rfl
          have c62 := box_at (j := 2) hv7.out.r6 rfl
          have c63 := box_at (j := 3) hv7.out.r6 rfl
          have c64 := box_at (j := 4) hv7.out.r6 rfl
          have c90 := box_at (j := 0) hv7.out.r9 rfl
          have c91 := box_at (j := 1) hv7.out.r9 rfl
          have c92 := box_at (j := 2) hv7.out.r9 rfl
          have c93 := box_at (j := 3) hv7.out.r9 rfl
          have c94 := box_at (j := 4) hv7.out.r9 rfl
          have cA0 := box_at (j := 0) hv7.out.r10 rfl
          have cA1 := box_at (j := 1) hv7.out.r10 rfl
          have cA2 := box_at (j := 2) hv7.out.r10 rfl
          have cA3 := box_at (j := 3) hv7.out.r10 rfl
          have cA4 := box_at (j := 4) hv7.out.r10 rfl
          have f6 := box_free hv7.out.r6
          have fA := box_free hv7.out.r10
          go_wp2_with fail
          obtain ⟨rz, hz⟩ := hv7.out.zero
          generalize (((((w7.setCell ⟨w.heap.size, 0, none⟩ (.int .i64 0)).setCell ⟨w.heap.size, 1, none⟩ (.int .i64 0)).setCell ⟨w.heap.size, 2, none⟩ (.string ByteArray.empty)).setCell ⟨w.heap.size, 3, none⟩ (.slice none 0 0)).setCell ⟨w.heap.size, 4, none⟩ (.slice none 0 0)) = w9 at *
          exact rt_bad rfl rfl rfl rfl rz hRR.out hz
        | ok x k =>
          rw [hf] at hst hc
          replace hst := hid hst
          replace hc := hid hc
          have hke := hfe _ _ _ hf
          rw [List.length_drop] at hke
          clear hf hgo
          obtain ⟨xk, xn, xt, xl, xfn, xfv⟩ := x
          go_wp2_with fail
          refine hc.out.mono ?_
          rintro e w6 ⟨h6, cs6, rfl, hr6⟩
          obtain ⟨ya, yc, za, zc, rfl, _⟩ := hr6.inv
          have hv7 := hid (hvr.out.later (h6.step (below_new w6 (.cells #[.int .i64 xk, .int .i64 xn, .string xt, .slice ya xl.length yc, .slice za xfv.length zc] 25))))
          have hown7 := hid (hown.out.later valRel (h6.step (below_new w6 (.cells #[.int .i64 xk, .int .i64 xn, .string xt, .slice ya xl.length yc, .slice za xfv.length zc] 25))))
          have hb7 := hid (below_new w6 (.cells #[.int .i64 xk, .int .i64 xn, .string xt, .slice ya xl.length yc, .slice za xfv.length zc] 25))
          have r21 := hid (heap_alloc_new w6 (.cells #[.int .i64 xk, .int .i64 xn, .string xt, .slice ya xl.length yc, .slice za xfv.length zc] 25))
          have hX7 : Hid (Rd (w6.alloc (.cells #[.int .i64 xk, .int .i64 xn, .string xt, .slice ya xl.length yc, .slice za xfv.length zc] 25)) (Apart (w.heap.size + 3) (w6.alloc (.cells #[.int .i64 xk, .int .i64 xn, .string xt, .slice ya xl.length yc, .slice za xfv.length zc] 25)) vs) (.mk xk xn xt xl xfn xfv) [.int .i64 xk, .int .i64 xn, .string xt, .slice ya xl.length yc, .slice za xfv.length zc]) :=
            hr6.keep (fun b hb => ⟨by have := hb.1; have := lt_of_block hvr.out.r10; omega, by have := hb.2; simp; omega, fun e => by have := (hown.out.lt b e).2; have := hb.1; omega⟩) (fun b hb => (below_new w6 (.cells #[.int .i64 xk, .int .i64 xn, .string xt, .slice ya xl.length yc, .slice za xfv.length zc] 25)).block b hb.2)
          have hB7 : Hid (w.heap.size + 3 ≤ (w6.alloc (.cells #[.int .i64 xk, .int .i64 xn, .string xt, .slice ya xl.length yc, .slice za xfv.length zc] 25)).heap.size) := by have := lt_of_block hv7.out.r10; show _ ≤ _; omega
          clear c60 c61 c62 c63 c64 c90 c91 c92 c93 c94 cA0 cA1 cA2 cA3 cA4 f6 fA hr6 h6 hown
          go_upto_region 55 with fail
          obtain ⟨w7, hw7⟩ : ∃ w7, w7 = w6.alloc (.cells #[.int .i64 xk, .int .i64 xn, .string xt, .slice ya xl.length yc, .slice za xfv.length zc] 25) := ⟨_, rfl⟩
          rw [← hw7] at hv7 hown7 hb7 r21 hX7 hB7 ⊢
          clear hw7
          have t0 := box_at (j := 0) r21.out rfl
          have t1 := box_at (j := 1) r21.out rfl
          have t2 := box_at (j := 2) r21.out rfl
          have t3 := box_at (j := 3) r21.out rfl
          have t4 := box_at (j := 4) r21.out rfl
          have c60 := box_at (j := 0) hv7.out.r6 rfl
          have c61 := box_at (j := 1) hv7.out.r6 rfl
          have c62 := box_at (j := 2) hv7.out.r6 rfl
          have c63 := box_at (j := 3) hv7.out.r6 rfl
          have c64 := box_at (j := 4) hv7.out.r6 rfl
          have c90 := box_at (j := 0) hv7.out.r9 rfl
          have c91 := box_at (j := 1) hv7.out.r9 rfl
          have c92 := box_at (j := 2) hv7.out.r9 rfl
          have c93 := box_at (j := 3) hv7.out.r9 rfl
          have c94 := box_at (j := 4) hv7.out.r9 rfl
          have cA0 := box_at (j := 0) hv7.out.r10 rfl
          have cA1 := box_at (j := 1) hv7.out.r10 rfl
          have cA2 := box_at (j := 2) hv7.out.r10 rfl
          have cA3 := box_at (j := 3) hv7.out.r10 rfl
          have cA4 := box_at (j := 4) hv7.out.r10 rfl
          have f6 := box_free hv7.out.r6
          have fA := box_free hv7.out.r10
          have hv8 := hid (hv7.out.later (below_new w7 (.cells #[.int .i64 xk, .int .i64 xn, .string xt, .slice ya xl.length yc, .slice za xfv.length zc] 25)))
          have hown8 := hid (hown7.out.later valRel (below_new w7 (.cells #[.int .i64 xk, .int .i64 xn, .string xt, .slice ya xl.length yc, .slice za xfv.length zc] 25)))
          have hX8 : Hid (Rd (w7.alloc (.cells #[.int .i64 xk, .int .i64 xn, .string xt, .slice ya xl.length yc, .slice za xfv.length zc] 25)) (Apart (w.heap.size + 3) (w7.alloc (.cells #[.int .i64 xk, .int .i64 xn, .string xt, .slice ya xl.length yc, .slice za xfv.length zc] 25)) vs) (.mk xk xn xt xl xfn xfv) [.int .i64 xk, .int .i64 xn, .string xt, .slice ya xl.length yc, .slice za xfv.length zc]) :=
            hX7.out.keep (fun b hb => ⟨hb.1, by have := hb.2.1; simp; omega, hb.2.2⟩) (fun b hb => (below_new w7 (.cells #[.int .i64 xk, .int .i64 xn, .string xt, .slice ya xl.length yc, .slice za xfv.length zc] 25)).block b hb.2.1)
          have hB8 : Hid (w.heap.size + 3 ≤ (w7.alloc (.cells #[.int .i64 xk, .int .i64 xn, .string xt, .slice ya xl.length yc, .slice za xfv.length zc] 25)).heap.size) := by have := hB7.out; show _ ≤ _; simp; omega
          go_wp2_with (first
            | (at_builtin; (refine wpList_append_g valRel _ rfl _ _ 22 rfl (w.heap.size + 3) (w.heap.size + 3) 25 80 i0 _ Tryd.underlying22 hi hz0 hz1 hz2 rfl (by decide) xs vs rfl hown8.out ⟨w7.heap.size, 0, none⟩ 1 [.int .i64 xk, .int .i64 xn, .string xt, .slice ya xl.length yc, .slice za xfv.length zc] (.mk xk xn xt xl xfn xfv) rfl (cells_new _ _ rfl _ _) hX8.out (by have := hn32.out; omega) (by have := hn32.out; unfold maxLen; omega) hB8.out ?_); intro v9 w9 hown9 hg9 hlow9 hst9; obtain ⟨a9, m9, n9, rfl⟩ := own_slice hown9; have hb9 := hid (grown_from hown8.out hg9 hB8.out); have hv9 := hid (hv8.out.from3 hb9.out); have cA3 := box_at (j := 3) hv9.out.r10 rfl; have fA := box_free hv9.out.r10))
          have hv10 := hid (hv9.out.set 3 (.slice a9 m9 n9))
          have ho10 := hid (hown9.box valRel ⟨w.heap.size + 1 + 1, 3, none⟩ (.slice a9 m9 n9) (fun e => absurd (hown9.lt _ e).1 (by show ¬ (w.heap.size + 3 ≤ w.heap.size + 1 + 1); omega)) (by show w.heap.size + 1 + 1 < w.heap.size + 3; omega))
          clear cA3 fA
          generalize w9.setCell ⟨w.heap.size + 1 + 1, 3, none⟩ (.slice a9 m9 n9) = w10 at *
          replace hv10 : Hid (VT w #[.int .i64 5, .int .i64 0, .string ⟨#[]⟩, .slice a9 m9 n9, .slice none 0 0] w10) := hv10
          go_roundg (n - (m + 1))
          case measure => omega
          case rel => exact ⟨m + 1, c + k, _, .slice a9 m9 n9, by omega, by simp [hxl], by omega, by go_num, by simp; omega, by rw [← Nat.add_assoc, ← List.drop_drop]; exact hst, hv10, ho10⟩
      · obtain rfl : m = n := by omega
        rw [Nat.sub_self] at hgo
        have hG := go1_end hgo.out
        replace hRR : Hid (R = .ok (.mk 5 0 ByteArray.empty xs [] []) (1 + (j + c))) := by show _ = _; rw [hRR.out, hG]; simp only; rw [Nat.add_assoc]
        clear hgo hG
        replace hxl := hid hxl
        obtain ⟨a9, n9, rfl, _⟩ := hown.out.form
        have hz := hid (set5_below hvr.out.below (Nat.le_refl _) (.int .i64 5) (.int .i64 0) (.string ⟨#[]⟩) (.slice a9 xs.length n9) (.slice none 0 0))
        have hrz := hid (set5_box (u0 := .int .i64 5) (u1 := .int .i64 0) (u2 := .string ⟨#[]⟩) (u3 := .slice a9 xs.length n9) (u4 := .slice none 0 0) hvr.out.r6)
        have hV := (rd_mk (k := 5) (n := 0) (s := ByteArray.empty) (fn := []) (fv := []) ⟨by decide, by decide⟩ ⟨by decide, by decide⟩ (by decide) (hown.out.readL (S := From (w.heap.size + 3) wr) (fun b hb => hown.out.lt b hb) (fun b hb => ⟨hb.1, hb.2.1⟩) (by have := hn32.out; have := hxl.out; omega)) rdF_nil)
        have hV9 : Hid (Rd (set5 wr w.heap.size (.int .i64 5) (.int .i64 0) (.string ⟨#[]⟩) (.slice a9 xs.length n9) (.slice none 0 0)) (From w.heap.size (set5 wr w.heap.size (.int .i64 5) (.int .i64 0) (.string ⟨#[]⟩) (.slice a9 xs.length n9) (.slice none 0 0))) (.mk 5 0 ByteArray.empty xs [] []) [.int .i64 5, .int .i64 0, .string ByteArray.empty, .slice a9 xs.length n9, .slice none 0 0]) :=
          hV.keep (fun b hb => ⟨by have := hb.1; omega, by rw [set5_size]; exact hb.2⟩) (fun b hb => set5_other _ _ _ _ _ _ _ (by have := hb.1; omega))
        clear hV
        unfold set5 at hz hrz hV9
        go_wp2_with fail
        generalize ((((wr.setCell ⟨w.heap.size, 0, none⟩ (.int .i64 5)).setCell ⟨w.heap.size, 1, none⟩ (.int .i64 0)).setCell ⟨w.heap.size, 2, none⟩ (.string ⟨#[]⟩)).setCell ⟨w.heap.size, 3, none⟩ (.slice a9 xs.length n9)).setCell ⟨w.heap.size, 4, none⟩ (.slice none 0 0) = w9 at *
        exact rt_ok (n := 1 + (j + c)) rfl rfl (by simp; omega) rfl hrz.out hRR.out hz.out hV9.out
end Go.Proofs.YtihcegakghmdfaaDoor
