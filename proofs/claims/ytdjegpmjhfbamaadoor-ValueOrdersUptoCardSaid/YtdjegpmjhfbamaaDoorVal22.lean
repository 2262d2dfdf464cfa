/-
  Walk: the law ValueChain, the values not too many.
-/
import Derived.Test.YtdjegpmjhfbamaaDoorVal21
import Derived.Deep.RegionHeld3
import Derived.Deep.CutRange
namespace Go.Proofs.YtdjegpmjhfbamaaDoor
open Go.RowKit Go.Proofs

theorem if_zero {p : Prop} [Decidable p] {x y : Int} (h : p) : (if p then x else y) = x := if_pos h
theorem or2_zero {x y : Int} (h : x = 0) (k : y = 0) : orI [x, y] = 0 := by simp [orI, h, k]
theorem or2_left {x y : Int} (h : x ≠ 0) : orI [x, y] = x := by simp [orI, h]
theorem or2_right {x y : Int} (h : x = 0) : orI [x, y] = y := by by_cases k : y = 0 <;> simp [orI, h, k]

/-- Block g holds o. -/
def Blk (w : World) (g : Nat) (o : Obj) : Prop := w.heap[g]? = some o
theorem Blk.lt {w : World} {g : Nat} {o : Obj} (h : Blk w g o) : g < w.heap.size := (Array.getElem?_eq_some_iff.1 h).1
theorem blk_new {w : World} {g : Nat} {o : Obj} (h : g = w.heap.size) : Blk (w.alloc o) g o := by subst h; exact heap_alloc_new w o
theorem Blk.below {w w' : World} {g : Nat} {o : Obj} (h : Blk w g o) (hb : Below w.heap.size w w') : Blk w' g o := (hb.block g h.lt).trans h
theorem Blk.alloc {w : World} {g : Nat} {o o' : Obj} (h : Blk w g o) : Blk (w.alloc o') g o := h.below (below_new _ _)
theorem Blk.drew {w : World} {g : Nat} {o : Obj} (h : Blk w g o) : Blk w.drew g o := h
theorem rdL_block {w : World} {Vs : List PVal} {css : List (List Value)} {cells : Array Value} {t : TypeId} {n g : Nat} (hn : n = Vs.length) (hlen : css.length = Vs.length) (hc : cells = css.flatten.toArray)
    (hr : ∀ (i : Nat) (x : PVal) (cs : List Value), Vs[i]? = some x → css[i]? = some cs → Rd w (Now w) x cs) (hb : Blk w g (.cells cells t)) (hl : Vs.length ≤ 1000) :
    RdL w (Now w) Vs (.slice (some ⟨g, 0, none⟩) n n) := by
  subst hn
  have h5 : ∀ cs ∈ css, cs.length = 5 := by
    intro cs hcs
    obtain ⟨i, hi⟩ := List.getElem?_of_mem hcs
    have hil : i < Vs.length := by rw [← hlen]; exact (List.getElem?_eq_some_iff.1 hi).1
    exact (hr i _ cs (List.getElem?_eq_getElem hil) hi).len
  have hcs : ∀ i, i < Vs.length → css[i]? = some (css.getD i []) := by
    intro i hi
    have : i < css.length := by omega
    simp [List.getD, List.getElem?_eq_getElem this]
  refine ⟨_, _, fun i => css.getD i [], rfl, Nat.le_refl _, ⟨by omega, by omega⟩, .inr ⟨g, 0, rfl, hb.lt, fun i hi j v hv => ?_⟩, fun i x hx => ?_⟩
  · rw [Nat.zero_add]
    exact (cell_of_row _ _ _ _ _ _ hb).trans (by rw [hc, List.getElem?_toArray]; exact flatten_at 5 css h5 i _ (hcs i hi) j v hv)
  · have hi : i < Vs.length := (List.getElem?_eq_some_iff.1 hx).1
    exact hr i x _ hx (hcs i hi)

set_option maxRecDepth 100000 in
set_option maxHeartbeats 16000000 in
theorem chain_few (a b c : PVal) (hvb : vast [a, b, c] = false) (w : World) (csa csb csc : List Value) (hT : Tabs w) (hA : Rd w (Now w) a csa) (hB : Rd w (Now w) b csb) (hC : Rd w (Now w) c csc) :
    Calls Tryd.prog 14 #[.agg csa.toArray, .agg csb.toArray, .agg csc.toArray] w fun e w' => e = .returned (.bool true) ∧ Below w.heap.size w w' := by
  have hT := hid (fun w' hb => Tabs.stays w w' hT hb)
  have haw := hid awake_calls
  have hA0 := hid hA
  have hB0 := hid hB
  have hC0 := hid hC
  have hv := hid (fun la c' w h => vast_calls [a, b, c] la c' w h (by simp))
  have hW3 : Hid (∀ A B C : Obj, Below w.heap.size w (((w.alloc A).alloc B).alloc C)) := fun A B C => ((below_new _ _).step (below_new _ _)).step (below_new _ _)
  rw [hvb] at hv
  have hnl : nodesL [a, b, c] < 5000 := by simpa [vast] using hvb
  simp only [nodesL] at hnl
  obtain ⟨R, hR⟩ : ∃ R : Bool, (R = true ↔ a = b) := by
    by_cases e : a = b
    · exact ⟨true, by simp [e]⟩
    · exact ⟨false, by simp [e]⟩
  have hfa := hA.fits
  have hfb := hB.fits
  have hfc := hC.fits
  have gab := hid (fun w cs cs' hT h h' => compare_tells a b w cs cs' (by omega) (by omega) hT h h')
  have gba := hid (fun w cs cs' hT h h' => compare_tells b a w cs cs' (by omega) (by omega) hT h h')
  have gbc := hid (fun w cs cs' hT h h' => compare_tells b c w cs cs' (by omega) (by omega) hT h h')
  have gac := hid (fun w cs cs' hT h h' => compare_tells a c w cs cs' (by omega) (by omega) hT h h')
  have gha := hid (fun w cs hT h => hash_tells a w cs (by omega) hT h)
  have ghb := hid (fun w cs hT h => hash_tells b w cs (by omega) hT h)
  have gga := hid (fun w cs hT h => good_calls a w cs (by omega) hT h)
  have ggb := hid (fun w cs hT h => good_calls b w cs (by omega) hT h)
  have ggc := hid (fun w cs hT h => good_calls c w cs (by omega) hT h)
  have gs := hid (fun w cs cs' h h' => same2_calls a b R hR w cs cs' h h')
  have gl := hid (fun w cs cs' hT h h' => compare_tells (listV [c, a]) (listV [c, b]) w cs cs' (by simp [listV, PVal.nodes, nodesL]; omega) (by simp [listV, PVal.nodes, nodesL]; omega) hT h h')
  have ll := hid list_calls
  rw [cmpV_anti] at gba
  rw [cmpV_pair] at gl
  have fR : cmpV a b = 0 ↔ R = true := ⟨fun e => hR.2 (cmpV_zero a hfa b hfb e), fun e => by rw [hR.1 e]; exact cmpV_same b⟩
  have fH : cmpV a b = 0 → mix 14695981039346656037 a.enc = mix 14695981039346656037 b.enc := fun e => by rw [cmpV_zero a hfa b hfb e]
  have fF : a.good = 0 → b.good = 0 → c.good = 0 → Fit (cmpV a b) (cmpV b c) (cmpV a c) := fun x y z => fit_V a hfa (good_formed x) b c hfb (good_formed y) hfc (good_formed z)
  have fX := cmpV_range a b
  generalize cmpV a b = X at *
  generalize cmpV b c = Z at *
  generalize cmpV a c = Y at *
  generalize mix 14695981039346656037 a.enc = ea at *
  generalize mix 14695981039346656037 b.enc = eb at *
  generalize orI [(listV [c, a]).good, (listV [c, b]).good] = el at *
  generalize a.good = ga at *
  generalize b.good = gb at *
  generalize c.good = gc at *
  obtain ⟨eab, hab⟩ : ∃ e, e = orI [ga, gb] := ⟨_, rfl⟩
  obtain ⟨eba, hba⟩ : ∃ e, e = orI [gb, ga] := ⟨_, rfl⟩
  obtain ⟨ebc, hbc⟩ : ∃ e, e = orI [gb, gc] := ⟨_, rfl⟩
  obtain ⟨eac, hac⟩ : ∃ e, e = orI [ga, gc] := ⟨_, rfl⟩
  rw [← hab] at gab
  rw [← hba] at gba
  rw [← hbc] at gbc
  rw [← hac] at gac
  obtain ⟨xab, hxab⟩ : ∃ x, x = (if eab = 0 then X else 0) := ⟨_, rfl⟩
  obtain ⟨xba, hxba⟩ : ∃ x, x = (if eba = 0 then -X else 0) := ⟨_, rfl⟩
  obtain ⟨xbc, hxbc⟩ : ∃ x, x = (if ebc = 0 then Z else 0) := ⟨_, rfl⟩
  obtain ⟨xac, hxac⟩ : ∃ x, x = (if eac = 0 then Y else 0) := ⟨_, rfl⟩
  rw [← hxab] at gab
  rw [← hxba] at gba
  rw [← hxbc] at gbc
  rw [← hxac] at gac
  obtain ⟨pa, hpa⟩ : ∃ x, x = (if ga = 0 then ea else 0) := ⟨_, rfl⟩
  obtain ⟨pb, hpb⟩ : ∃ x, x = (if gb = 0 then eb else 0) := ⟨_, rfl⟩
  rw [← hpa] at gha
  rw [← hpb] at ghb
  obtain ⟨xl, hxl⟩ : ∃ x, x = (if el = 0 then X else 0) := ⟨_, rfl⟩
  rw [← hxl] at gl
  replace hab := hid hab
  replace hba := hid hba
  replace hbc := hid hbc
  replace hac := hid hac
  replace hxab := hid hxab
  replace hxba := hid hxba
  replace hxbc := hid hxbc
  replace hxac := hid hxac
  replace hpa := hid hpa
  replace hpb := hid hpb
  replace hxl := hid hxl
  replace fR := hid fR
  replace fH := hid fH
  replace fF := hid fF
  replace fX := hid fX
  clear hR hfa hfb hfc hnl hvb
  obtain ⟨k0, n0, s0, l0, fn0, fv0⟩ := a
  obtain ⟨k1, n1, s1, l1, fn1, fv1⟩ := b
  obtain ⟨k2, n2, s2, l2, fn2, fv2⟩ := c
  obtain ⟨la0, lc0, fa0, fc0, rfl, _⟩ := hA.inv
  obtain ⟨la1, lc1, fa1, fc1, rfl, _⟩ := hB.inv
  obtain ⟨la2, lc2, fa2, fc2, rfl, _⟩ := hC.inv
  clear hA hB hC
  go_enter Tryd.func14, Tryd.ntmps14
  go_wp2_with fail
  refine (haw.out _ (hT.out _ (hW3.out _ _ _))).mono ?_
  rintro e w1 ⟨rfl, h1⟩
  obtain ⟨kA, kB, kC⟩ := three_cells h1
  have A0 := kA 0 _ rfl
  have A1 := kA 1 _ rfl
  have A2 := kA 2 _ rfl
  have A3 := kA 3 _ rfl
  have A4 := kA 4 _ rfl
  have B0 := kB 0 _ rfl
  have B1 := kB 1 _ rfl
  have B2 := kB 2 _ rfl
  have B3 := kB 3 _ rfl
  have B4 := kB 4 _ rfl
  have C0 := kC 0 _ rfl
  have C1 := kC 1 _ rfl
  have C2 := kC 2 _ rfl
  have C3 := kC 3 _ rfl
  have C4 := kC 4 _ rfl
  clear kA kB kC
  have N := hid h1
  have D := hid ((hW3.out _ _ _).step h1)
  go_wp2_with fail
  refine (hv.out _ _ _ (rdL_new (css := [[.int .i64 k0, .int .i64 n0, .string s0, .slice la0 l0.length lc0, .slice fa0 fv0.length fc0], [.int .i64 k1, .int .i64 n1, .string s1, .slice la1 l1.length lc1, .slice fa1 fv1.length fc1], [.int .i64 k2, .int .i64 n2, .string s2, .slice la2 l2.length lc2, .slice fa2 fv2.length fc2]]) rfl rfl rfl (three_rd (hA0.out.later D.out) (hB0.out.later D.out) (hC0.out.later D.out)) (Below.refl _ _) (by simp))).mono ?_
  rintro e w2 ⟨rfl, h2⟩
  replace N := hid ((N.out.step (below_new _ _)).step h2)
  replace D := hid ((D.out.step (below_new _ _)).step h2)
  clear A0 A1 A2 A3 A4 B0 B1 B2 B3 B4 C0 C1 C2 C3 C4
  obtain ⟨kA, kB, kC⟩ := three_cells N.out
  have A0 := kA 0 _ rfl
  have A1 := kA 1 _ rfl
  have A2 := kA 2 _ rfl
  have A3 := kA 3 _ rfl
  have A4 := kA 4 _ rfl
  have B0 := kB 0 _ rfl
  have B1 := kB 1 _ rfl
  have B2 := kB 2 _ rfl
  have B3 := kB 3 _ rfl
  have B4 := kB 4 _ rfl
  clear kA kB kC
  go_wp2_with fail
  refine (gab.out _ _ _ (hT.out _ D.out) (hA0.out.later D.out) (hB0.out.later D.out)).mono ?_
  rintro e w3 ⟨rfl, h3⟩
  replace N := hid (N.out.step h3)
  replace D := hid (D.out.step h3)
  clear A0 A1 A2 A3 A4 B0 B1 B2 B3 B4
  obtain ⟨kA, kB, kC⟩ := three_cells N.out
  have B0 := kB 0 _ rfl
  have B1 := kB 1 _ rfl
  have B2 := kB 2 _ rfl
  have B3 := kB 3 _ rfl
  have B4 := kB 4 _ rfl
  have A0 := kA 0 _ rfl
  have A1 := kA 1 _ rfl
  have A2 := kA 2 _ rfl
  have A3 := kA 3 _ rfl
  have A4 := kA 4 _ rfl
  clear kA kB kC
  go_wp2_with fail
  refine (gba.out _ _ _ (hT.out _ D.out) (hB0.out.later D.out) (hA0.out.later D.out)).mono ?_
  rintro e w4 ⟨rfl, h4⟩
  replace N := hid (N.out.step h4)
  replace D := hid (D.out.step h4)
  clear B0 B1 B2 B3 B4 A0 A1 A2 A3 A4
  obtain ⟨kA, kB, kC⟩ := three_cells N.out
  have B0 := kB 0 _ rfl
  have B1 := kB 1 _ rfl
  have B2 := kB 2 _ rfl
  have B3 := kB 3 _ rfl
  have B4 := kB 4 _ rfl
  have C0 := kC 0 _ rfl
  have C1 := kC 1 _ rfl
  have C2 := kC 2 _ rfl
  have C3 := kC 3 _ rfl
  have C4 := kC 4 _ rfl
  clear kA kB kC
  go_wp2_with fail
  refine (gbc.out _ _ _ (hT.out _ D.out) (hB0.out.later D.out) (hC0.out.later D.out)).mono ?_
  rintro e w5 ⟨rfl, h5⟩
  replace N := hid (N.out.step h5)
  replace D := hid (D.out.step h5)
  clear B0 B1 B2 B3 B4 C0 C1 C2 C3 C4
  obtain ⟨kA, kB, kC⟩ := three_cells N.out
  have A0 := kA 0 _ rfl
  have A1 := kA 1 _ rfl
  have A2 := kA 2 _ rfl
  have A3 := kA 3 _ rfl
  have A4 := kA 4 _ rfl
  have C0 := kC 0 _ rfl
  have C1 := kC 1 _ rfl
  have C2 := kC 2 _ rfl
  have C3 := kC 3 _ rfl
  have C4 := kC 4 _ rfl
  clear kA kB kC
  go_wp2_with fail
  refine (gac.out _ _ _ (hT.out _ D.out) (hA0.out.later D.out) (hC0.out.later D.out)).mono ?_
  rintro e w6 ⟨rfl, h6⟩
  replace N := hid (N.out.step h6)
  replace D := hid (D.out.step h6)
  clear A0 A1 A2 A3 A4 C0 C1 C2 C3 C4
  obtain ⟨kA, kB, kC⟩ := three_cells N.out
  have A0 := kA 0 _ rfl
  have A1 := kA 1 _ rfl
  have A2 := kA 2 _ rfl
  have A3 := kA 3 _ rfl
  have A4 := kA 4 _ rfl
  have B0 := kB 0 _ rfl
  have B1 := kB 1 _ rfl
  have B2 := kB 2 _ rfl
  have B3 := kB 3 _ rfl
  have B4 := kB 4 _ rfl
  have C0 := kC 0 _ rfl
  have C1 := kC 1 _ rfl
  have C2 := kC 2 _ rfl
  have C3 := kC 3 _ rfl
  have C4 := kC 4 _ rfl
  clear kA kB kC
  by_cases hga : ga = 0
  case neg =>
    have b1 : (eab != 0) = true := by rw [hab.out, or2_left hga]; simp [hga]
    have b2 : (ga != 0) = true := by simp [hga]
    go_wp2_with fail
    refine (gga.out _ _ (hT.out _ D.out) (hA0.out.later D.out)).mono ?_
    rintro e w7 ⟨rfl, h7⟩
    go_wp2_with fail
    go_ret
    exact ⟨rfl, D.out.step h7⟩
  have b0 : (ga != 0) = false := by simp [hga]
  replace hga := hid hga
  by_cases hgb : gb = 0
  case neg =>
    have b1 : (eab != 0) = true := by rw [hab.out, or2_right hga.out]; simp [hgb]
    have b2 : (gb != 0) = true := by simp [hgb]
    go_wp2_with fail
    refine (gga.out _ _ (hT.out _ D.out) (hA0.out.later D.out)).mono ?_
    rintro e w7 ⟨rfl, h7⟩
    replace N := hid (N.out.step h7)
    replace D := hid (D.out.step h7)
    obtain ⟨kA, kB, kC⟩ := three_cells N.out
    have B0 := kB 0 _ rfl
    have B1 := kB 1 _ rfl
    have B2 := kB 2 _ rfl
    have B3 := kB 3 _ rfl
    have B4 := kB 4 _ rfl
    clear kA kB kC
    go_wp2_with fail
    refine (ggb.out _ _ (hT.out _ D.out) (hB0.out.later D.out)).mono ?_
    rintro e w8 ⟨rfl, h8⟩
    go_wp2_with fail
    go_ret
    exact ⟨rfl, D.out.step h8⟩
  have b1 : (gb != 0) = false := by simp [hgb]
  replace hgb := hid hgb
  have b2 : (eab != 0) = false := by rw [hab.out, or2_zero hga.out hgb.out]; rfl
  have b3 : (eba != 0) = false := by rw [hba.out, or2_zero hgb.out hga.out]; rfl
  by_cases hgc : gc = 0
  case neg =>
    have b4 : (ebc != 0) = true := by rw [hbc.out, or2_right hgb.out]; simp [hgc]
    have b5 : (gc != 0) = true := by simp [hgc]
    go_wp2_with fail
    refine (gga.out _ _ (hT.out _ D.out) (hA0.out.later D.out)).mono ?_
    rintro e w7 ⟨rfl, h7⟩
    replace N := hid (N.out.step h7)
    replace D := hid (D.out.step h7)
    obtain ⟨kA, kB, kC⟩ := three_cells N.out
    have B0 := kB 0 _ rfl
    have B1 := kB 1 _ rfl
    have B2 := kB 2 _ rfl
    have B3 := kB 3 _ rfl
    have B4 := kB 4 _ rfl
    clear kA kB kC
    go_wp2_with fail
    refine (ggb.out _ _ (hT.out _ D.out) (hB0.out.later D.out)).mono ?_
    rintro e w8 ⟨rfl, h8⟩
    replace N := hid (N.out.step h8)
    replace D := hid (D.out.step h8)
    obtain ⟨kA, kB, kC⟩ := three_cells N.out
    have C0 := kC 0 _ rfl
    have C1 := kC 1 _ rfl
    have C2 := kC 2 _ rfl
    have C3 := kC 3 _ rfl
    have C4 := kC 4 _ rfl
    clear kA kB kC
    go_wp2_with fail
    refine (ggc.out _ _ (hT.out _ D.out) (hC0.out.later D.out)).mono ?_
    rintro e w9 ⟨rfl, h9⟩
    go_wp2_with fail
    go_ret
    exact ⟨rfl, D.out.step h9⟩
  have b4 : (ebc != 0) = false := by rw [hbc.out, or2_zero hgb.out hgc]; rfl
  have b5 : (eac != 0) = false := by rw [hac.out, or2_zero hga.out hgc]; rfl
  have hF := hid (fF.out hga.out hgb.out hgc)
  have e1 : Hid (xab = X) := by show _ = _; rw [hxab.out, hab.out, or2_zero hga.out hgb.out, if_zero rfl]
  have e2 : Hid (xba = -X) := by show _ = _; rw [hxba.out, hba.out, or2_zero hgb.out hga.out, if_zero rfl]
  have e3 : Hid (xbc = Z) := by show _ = _; rw [hxbc.out, hbc.out, or2_zero hgb.out hgc, if_zero rfl]
  have e4 : Hid (xac = Y) := by show _ = _; rw [hxac.out, hac.out, or2_zero hga.out hgc, if_zero rfl]
  have e5 : Hid (pa = ea) := by show _ = _; rw [hpa.out, if_zero hga.out]
  have e6 : Hid (pb = eb) := by show _ = _; rw [hpb.out, if_zero hgb.out]
  replace hgc := hid hgc
  clear b0 b1
  go_wp2_with fail
  refine (gha.out _ _ (hT.out _ D.out) (hA0.out.later D.out)).mono ?_
  rintro e w7 ⟨rfl, h7⟩
  replace N := hid (N.out.step h7)
  replace D := hid (D.out.step h7)
  clear A0 A1 A2 A3 A4 B0 B1 B2 B3 B4 C0 C1 C2 C3 C4
  obtain ⟨kA, kB, kC⟩ := three_cells N.out
  have B0 := kB 0 _ rfl
  have B1 := kB 1 _ rfl
  have B2 := kB 2 _ rfl
  have B3 := kB 3 _ rfl
  have B4 := kB 4 _ rfl
  clear kA kB kC
  go_wp2_with fail
  refine (ghb.out _ _ (hT.out _ D.out) (hB0.out.later D.out)).mono ?_
  rintro e w8 ⟨rfl, h8⟩
  replace N := hid (N.out.step h8)
  replace D := hid (D.out.step h8)
  clear B0 B1 B2 B3 B4
  obtain ⟨kA, kB, kC⟩ := three_cells N.out
  have A0 := kA 0 _ rfl
  have A1 := kA 1 _ rfl
  have A2 := kA 2 _ rfl
  have A3 := kA 3 _ rfl
  have A4 := kA 4 _ rfl
  have B0 := kB 0 _ rfl
  have B1 := kB 1 _ rfl
  have B2 := kB 2 _ rfl
  have B3 := kB 3 _ rfl
  have B4 := kB 4 _ rfl
  clear kA kB kC
  obtain rfl := e1.out
  obtain rfl := e2.out
  obtain rfl := e3.out
  obtain rfl := e4.out
  obtain rfl := e5.out
  obtain rfl := e6.out
  clear e1 e2 e3 e4 e5 e6 hxab hxba hxbc hxac hpa hpb b2 b3 b4 b5 hab hba hbc hac
  have hWW : Hid (∀ wx, Below (((w.alloc (.cells #[.int .i64 k0, .int .i64 n0, .string s0, .slice la0 l0.length lc0, .slice fa0 fv0.length fc0] 52)).alloc (.cells #[.int .i64 k1, .int .i64 n1, .string s1, .slice la1 l1.length lc1, .slice fa1 fv1.length fc1] 52)).alloc (.cells #[.int .i64 k2, .int .i64 n2, .string s2, .slice la2 l2.length lc2, .slice fa2 fv2.length fc2] 52)).heap.size (((w.alloc (.cells #[.int .i64 k0, .int .i64 n0, .string s0, .slice la0 l0.length lc0, .slice fa0 fv0.length fc0] 52)).alloc (.cells #[.int .i64 k1, .int .i64 n1, .string s1, .slice la1 l1.length lc1, .slice fa1 fv1.length fc1] 52)).alloc (.cells #[.int .i64 k2, .int .i64 n2, .string s2, .slice la2 l2.length lc2, .slice fa2 fv2.length fc2] 52)) wx → Below w.heap.size w wx) := fun wx h => (hW3.out _ _ _).step h
  go_upto_region 13 with fail
  go_cut [132] from 88 to 132 (fun c wx => c = .bool false ∧ Below (((w.alloc (.cells #[.int .i64 k0, .int .i64 n0, .string s0, .slice la0 l0.length lc0, .slice fa0 fv0.length fc0] 52)).alloc (.cells #[.int .i64 k1, .int .i64 n1, .string s1, .slice la1 l1.length lc1, .slice fa1 fv1.length fc1] 52)).alloc (.cells #[.int .i64 k2, .int .i64 n2, .string s2, .slice la2 l2.length lc2, .slice fa2 fv2.length fc2] 52)).heap.size (((w.alloc (.cells #[.int .i64 k0, .int .i64 n0, .string s0, .slice la0 l0.length lc0, .slice fa0 fv0.length fc0] 52)).alloc (.cells #[.int .i64 k1, .int .i64 n1, .string s1, .slice la1 l1.length lc1, .slice fa1 fv1.length fc1] 52)).alloc (.cells #[.int .i64 k2, .int .i64 n2, .string s2, .slice la2 l2.length lc2, .slice fa2 fv2.length fc2] 52)) wx)
  case first =>
    rcases fX.out with e | e | e
    · subst e
      obtain rfl : R = false := by
        cases R with
        | false => rfl
        | true => exact absurd (fR.out.2 rfl) (by decide)
      by_cases hz : xbc ≤ 0
      · have hy := hF.out (by decide) hz
        have hy1 := hy.2.1 (by decide)
        have hy2 : ¬ (0 < xac) := by omega
        have hy3 : ¬ (0 ≤ xac) := by omega
        go_wp2_with fail
        refine (gs.out _ _ _ (hA0.out.later D.out) (hB0.out.later D.out)).mono ?_
        rintro e w9 ⟨rfl, h9⟩
        go_wp2_with fail
        go_meet
        exact ⟨by rw [decide_eq_false (by omega : ¬ (0 < xac)), decide_eq_false (by omega : ¬ (0 ≤ xac))]; rfl, N.out.step h9⟩
      · go_wp2_with fail
        refine (gs.out _ _ _ (hA0.out.later D.out) (hB0.out.later D.out)).mono ?_
        rintro e w9 ⟨rfl, h9⟩
        go_wp2_with fail
        go_meet
        exact ⟨rfl, N.out.step h9⟩
    · subst e
      obtain rfl : R = true := fR.out.1 rfl
      have hpq := fH.out rfl
      have hpb : (pa != pb) = false := by simp [hpq]
      replace hpq := hid hpq
      by_cases hz : xbc ≤ 0
      · have hy := hF.out (by decide) hz
        have hy1 := hy.1
        have hy2 : ¬ (0 < xac) := by omega
        replace hy := hid hy
        go_wp2_with fail
        refine (gs.out _ _ _ (hA0.out.later D.out) (hB0.out.later D.out)).mono ?_
        rintro e w9 ⟨rfl, h9⟩
        go_wp2_with fail
        go_meet
        exact ⟨by rw [decide_eq_false (by omega : ¬ (0 < xac))], N.out.step h9⟩
      · go_wp2_with fail
        refine (gs.out _ _ _ (hA0.out.later D.out) (hB0.out.later D.out)).mono ?_
        rintro e w9 ⟨rfl, h9⟩
        go_wp2_with fail
        go_meet
        exact ⟨rfl, N.out.step h9⟩
    · subst e
      obtain rfl : R = false := by
        cases R with
        | false => rfl
        | true => exact absurd (fR.out.2 rfl) (by decide)
      go_wp2_with fail
      refine (gs.out _ _ _ (hA0.out.later D.out) (hB0.out.later D.out)).mono ?_
      rintro e w9 ⟨rfl, h9⟩
      go_wp2_with fail
      go_meet
      exact ⟨rfl, N.out.step h9⟩
  case rest =>
    obtain ⟨rfl, hN⟩ := hcut
    replace N := hid hN
    replace D := hid (hWW.out _ hN)
    clear A0 A1 A2 A3 A4 B0 B1 B2 B3 B4
    obtain ⟨kA, kB, kC⟩ := three_cells hN
    have A0 := kA 0 _ rfl
    have A1 := kA 1 _ rfl
    have A2 := kA 2 _ rfl
    have A3 := kA 3 _ rfl
    have A4 := kA 4 _ rfl
    have B0 := kB 0 _ rfl
    have B1 := kB 1 _ rfl
    have B2 := kB 2 _ rfl
    have B3 := kB 3 _ rfl
    have B4 := kB 4 _ rfl
    have C0 := kC 0 _ rfl
    have C1 := kC 1 _ rfl
    have C2 := kC 2 _ rfl
    have C3 := kC 3 _ rfl
    have C4 := kC 4 _ rfl
    clear kA kB kC hN
    have hkeep : Hid (∀ x w', x.cell? ⟨w.heap.size, 0, none⟩ = some (.int .i64 k0) ∧ x.cell? ⟨w.heap.size, 1, none⟩ = some (.int .i64 n0) ∧ x.cell? ⟨w.heap.size, 2, none⟩ = some (.string s0) ∧ x.cell? ⟨w.heap.size, 3, none⟩ = some (.slice la0 l0.length lc0) ∧ x.cell? ⟨w.heap.size, 4, none⟩ = some (.slice fa0 fv0.length fc0) ∧ x.cell? ⟨w.heap.size + 1, 0, none⟩ = some (.int .i64 k1) ∧ x.cell? ⟨w.heap.size + 1, 1, none⟩ = some (.int .i64 n1) ∧ x.cell? ⟨w.heap.size + 1, 2, none⟩ = some (.string s1) ∧ x.cell? ⟨w.heap.size + 1, 3, none⟩ = some (.slice la1 l1.length lc1) ∧ x.cell? ⟨w.heap.size + 1, 4, none⟩ = some (.slice fa1 fv1.length fc1) ∧ x.cell? ⟨w.heap.size + 1 + 1, 0, none⟩ = some (.int .i64 k2) ∧ x.cell? ⟨w.heap.size + 1 + 1, 1, none⟩ = some (.int .i64 n2) ∧ x.cell? ⟨w.heap.size + 1 + 1, 2, none⟩ = some (.string s2) ∧ x.cell? ⟨w.heap.size + 1 + 1, 3, none⟩ = some (.slice la2 l2.length lc2) ∧ x.cell? ⟨w.heap.size + 1 + 1, 4, none⟩ = some (.slice fa2 fv2.length fc2) → Below x.heap.size x w' → w'.cell? ⟨w.heap.size, 0, none⟩ = some (.int .i64 k0) ∧ w'.cell? ⟨w.heap.size, 1, none⟩ = some (.int .i64 n0) ∧ w'.cell? ⟨w.heap.size, 2, none⟩ = some (.string s0) ∧ w'.cell? ⟨w.heap.size, 3, none⟩ = some (.slice la0 l0.length lc0) ∧ w'.cell? ⟨w.heap.size, 4, none⟩ = some (.slice fa0 fv0.length fc0) ∧ w'.cell? ⟨w.heap.size + 1, 0, none⟩ = some (.int .i64 k1) ∧ w'.cell? ⟨w.heap.size + 1, 1, none⟩ = some (.int .i64 n1) ∧ w'.cell? ⟨w.heap.size + 1, 2, none⟩ = some (.string s1) ∧ w'.cell? ⟨w.heap.size + 1, 3, none⟩ = some (.slice la1 l1.length lc1) ∧ w'.cell? ⟨w.heap.size + 1, 4, none⟩ = some (.slice fa1 fv1.length fc1) ∧ w'.cell? ⟨w.heap.size + 1 + 1, 0, none⟩ = some (.int .i64 k2) ∧ w'.cell? ⟨w.heap.size + 1 + 1, 1, none⟩ = some (.int .i64 n2) ∧ w'.cell? ⟨w.heap.size + 1 + 1, 2, none⟩ = some (.string s2) ∧ w'.cell? ⟨w.heap.size + 1 + 1, 3, none⟩ = some (.slice la2 l2.length lc2) ∧ w'.cell? ⟨w.heap.size + 1 + 1, 4, none⟩ = some (.slice fa2 fv2.length fc2)) := fun x w' h hb => ⟨Later.cell (h.1) ⟨w', hb⟩, Later.cell (h.2.1) ⟨w', hb⟩, Later.cell (h.2.2.1) ⟨w', hb⟩, Later.cell (h.2.2.2.1) ⟨w', hb⟩, Later.cell (h.2.2.2.2.1) ⟨w', hb⟩, Later.cell (h.2.2.2.2.2.1) ⟨w', hb⟩, Later.cell (h.2.2.2.2.2.2.1) ⟨w', hb⟩, Later.cell (h.2.2.2.2.2.2.2.1) ⟨w', hb⟩, Later.cell (h.2.2.2.2.2.2.2.2.1) ⟨w', hb⟩, Later.cell (h.2.2.2.2.2.2.2.2.2.1) ⟨w', hb⟩, Later.cell (h.2.2.2.2.2.2.2.2.2.2.1) ⟨w', hb⟩, Later.cell (h.2.2.2.2.2.2.2.2.2.2.2.1) ⟨w', hb⟩, Later.cell (h.2.2.2.2.2.2.2.2.2.2.2.2.1) ⟨w', hb⟩, Later.cell (h.2.2.2.2.2.2.2.2.2.2.2.2.2.1) ⟨w', hb⟩, Later.cell (h.2.2.2.2.2.2.2.2.2.2.2.2.2.2) ⟨w', hb⟩⟩
    have hfin : Hid (∀ (x : World) (g g' : Nat), Below w.heap.size w x → Blk x g (.cells #[.int .i64 k2, .int .i64 n2, .string s2, .slice la2 l2.length lc2, .slice fa2 fv2.length fc2, .int .i64 k0, .int .i64 n0, .string s0, .slice la0 l0.length lc0, .slice fa0 fv0.length fc0] 52) → Blk x g' (.cells #[.int .i64 k2, .int .i64 n2, .string s2, .slice la2 l2.length lc2, .slice fa2 fv2.length fc2, .int .i64 k1, .int .i64 n1, .string s1, .slice la1 l1.length lc1, .slice fa1 fv1.length fc1] 52) →
        Calls Tryd.prog 48 #[.agg #[.int .i64 5, .int .i64 0, .string ByteArray.empty, .slice (some ⟨g, 0, none⟩) 2 2, .slice none 0 0], .agg #[.int .i64 5, .int .i64 0, .string ByteArray.empty, .slice (some ⟨g', 0, none⟩) 2 2, .slice none 0 0]] x fun e w' =>
          e = .returned (.tuple #[.int .i64 xl, .int .i64 el]) ∧ Below x.heap.size x w') := fun x g g' hB k k' =>
      gl.out x _ _ (hT.out _ hB) (rd_lists rfl (rdL_block (css := [[.int .i64 k2, .int .i64 n2, .string s2, .slice la2 l2.length lc2, .slice fa2 fv2.length fc2], [.int .i64 k0, .int .i64 n0, .string s0, .slice la0 l0.length lc0, .slice fa0 fv0.length fc0]]) rfl rfl rfl (two_rd (hC0.out.later hB) (hA0.out.later hB)) k (by simp))) (rd_lists rfl (rdL_block (css := [[.int .i64 k2, .int .i64 n2, .string s2, .slice la2 l2.length lc2, .slice fa2 fv2.length fc2], [.int .i64 k1, .int .i64 n1, .string s1, .slice la1 l1.length lc1, .slice fa1 fv1.length fc1]]) rfl rfl rfl (two_rd (hC0.out.later hB) (hB0.out.later hB)) k' (by simp)))
    have mark : True := trivial
    go_upto_region 15 with fail
    go_cut [8, 19] from 133 to 144 (fun s8 s19 wx => s8 = .int .i64 el ∧ s19 = .int .i64 xl ∧ Below w.heap.size w wx)
    case first =>
      go_region_held3 (fun w' => w'.cell? ⟨w.heap.size, 0, none⟩ = some (.int .i64 k0) ∧ w'.cell? ⟨w.heap.size, 1, none⟩ = some (.int .i64 n0) ∧ w'.cell? ⟨w.heap.size, 2, none⟩ = some (.string s0) ∧ w'.cell? ⟨w.heap.size, 3, none⟩ = some (.slice la0 l0.length lc0) ∧ w'.cell? ⟨w.heap.size, 4, none⟩ = some (.slice fa0 fv0.length fc0) ∧ w'.cell? ⟨w.heap.size + 1, 0, none⟩ = some (.int .i64 k1) ∧ w'.cell? ⟨w.heap.size + 1, 1, none⟩ = some (.int .i64 n1) ∧ w'.cell? ⟨w.heap.size + 1, 2, none⟩ = some (.string s1) ∧ w'.cell? ⟨w.heap.size + 1, 3, none⟩ = some (.slice la1 l1.length lc1) ∧ w'.cell? ⟨w.heap.size + 1, 4, none⟩ = some (.slice fa1 fv1.length fc1) ∧ w'.cell? ⟨w.heap.size + 1 + 1, 0, none⟩ = some (.int .i64 k2) ∧ w'.cell? ⟨w.heap.size + 1 + 1, 1, none⟩ = some (.int .i64 n2) ∧ w'.cell? ⟨w.heap.size + 1 + 1, 2, none⟩ = some (.string s2) ∧ w'.cell? ⟨w.heap.size + 1 + 1, 3, none⟩ = some (.slice la2 l2.length lc2) ∧ w'.cell? ⟨w.heap.size + 1 + 1, 4, none⟩ = some (.slice fa2 fv2.length fc2))
        (first | exact hkeep.out _ _ (by assumption) (by assumption) | go_keep)
        (first
          | (clear mark; go_at_call 34; refine (ll.out _ _ _ _).mono ?_; rintro e x1 ⟨rfl, hb1⟩)
          | (go_at_call 34; refine (ll.out _ _ _ _).mono ?_; rintro e x2 ⟨rfl, hb2⟩)
          | (go_at_call 48
             have hB9 := hid (D.out.step (by first | exact (((below_new _ _).drew.step hb1).step (below_new _ _)).step hb2 | exact (((below_new _ _).step (below_new _ _)).drew.step hb1).step hb2 | exact ((Below.refl _ _).drew.step (below_new _ _)).step hb2 : Below wc.heap.size wc x2))
             refine (hfin.out _ _ _ hB9.out ?_ ?_).mono ?_
             · (repeat (first | exact blk_new (by simp) | refine Blk.below ?_ hb2 | refine Blk.below ?_ hb1 | refine Blk.drew ?_ | refine Blk.alloc ?_))
             · (repeat (first | exact blk_new (by simp) | refine Blk.below ?_ hb2 | refine Blk.below ?_ hb1 | refine Blk.drew ?_ | refine Blk.alloc ?_))
             rintro e x3 ⟨rfl, hb3⟩
             have hBD := hid (hB9.out.step hb3)))
      all_goals (go_wp2_with fail; go_meet; exact ⟨rfl, rfl, hBD.out⟩)
    case rest =>
      obtain ⟨rfl, rfl, hD⟩ := hcut
      replace hD := hid hD
      clear A0 A1 A2 A3 A4 B0 B1 B2 B3 B4 C0 C1 C2 C3 C4
      by_cases hel : el = 0
      · have h1 := hxl.out
        rw [if_zero hel] at h1
        have b1 : (el != 0) = false := by simp [hel]
        clear hxl
        subst h1
        replace hel := hid hel
        go_wp2_with fail
        go_ret
        exact ⟨by simp, hD.out⟩
      · have b1 : (el != 0) = true := by simp [hel]
        go_wp2_with fail
        go_ret
        exact ⟨rfl, hD.out⟩
theorem chain_calls (a b c : PVal) (w : World) (csa csb csc : List Value) (hT : Tabs w) (hA : Rd w (Now w) a csa) (hB : Rd w (Now w) b csb) (hC : Rd w (Now w) c csc) :
    Calls Tryd.prog 14 #[.agg csa.toArray, .agg csb.toArray, .agg csc.toArray] w fun e w' => e = .returned (.bool true) ∧ Below w.heap.size w w' := by
  cases h : vast [a, b, c] with
  | true => exact chain_vast a b c h w csa csb csc hT hA hB hC
  | false => exact chain_few a b c h w csa csb csc hT hA hB hC
end Go.Proofs.YtdjegpmjhfbamaaDoor
