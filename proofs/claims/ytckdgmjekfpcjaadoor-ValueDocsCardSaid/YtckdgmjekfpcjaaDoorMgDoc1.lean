/-
  Walks: VastFields (the reference's: the fields' values as a row of their own), Zero, same (the law's).
  Walk: value.Find in a Doc, of a name that stands in it.
  Plain: a Doc made of fields in whatever order. No condition.
-/
import Derived.Test.YtckdgmjekfpcjaaDoorMgVal19
import Derived.Test.YtckdgmjekfpcjaaDoorMgSrtD
import Derived.Test.YtckdgmjekfpcjaaDoorMgSrtP
namespace Go.Proofs.YtckdgmjekfpcjaaDoor
open Go.RowKit Go.Proofs

set_option maxRecDepth 100000 in
set_option maxHeartbeats 4000000 in
theorem vastF_calls {w : World} {fn : List ByteArray} {fv : List PVal} {la : Option Addr} {c : Nat} (hF : RdF w (Now w) fn fv (.slice la fv.length c)) (hl : fv.length ≤ 1466015503701) :
    Calls Tryd.prog 5 #[.slice la fv.length c] w fun e w' => e = .returned (.bool (vast fv)) ∧ Below w.heap.size w w' := by
  have hfe := hid hF.1
  have hvc := hid (fun (la : Option Addr) (c : Nat) (w' : World) (h : RdL w' (Now w') fv (.slice la fv.length c)) => vast_calls fv la c w' h (by omega))
  obtain ⟨R, hR⟩ : ∃ R, R = vast fv := ⟨_, rfl⟩
  rw [← hR] at hvc ⊢
  clear hR
  obtain ⟨i0, hi, hz0, hz1, hz2⟩ := info_parts info52
  go_enter Tryd.func5, Tryd.ntmps5
  go_wp2_with fail
  go_loopg [3, 4] fv.length (fun g o i wr => ∃ j : Nat, g + j = fv.length ∧ i = .int .i64 j ∧ Below w.heap.size w wr ∧ OwnL wr (· < w.heap.size) w.heap.size 27 (fv.take j) o)
  case atStart => exact ⟨0, by omega, rfl, Below.refl _ _, OwnL.nil _ _ _ _⟩
  case round =>
    obtain ⟨j, hj, rfl, hbr, hown⟩ := hrel
    by_cases hlt : j < fv.length
    · obtain ⟨x, hx⟩ : ∃ x, fv[j]? = some x := ⟨_, List.getElem?_eq_getElem hlt⟩
      obtain ⟨nm, hnm⟩ : ∃ nm, fn[j]? = some nm := ⟨_, List.getElem?_eq_getElem (by rw [hfe.out]; exact hlt)⟩
      obtain ⟨b, off, xs, rfl, hxS, hxc, hxr, hnz⟩ := hF.at_ hnm hx
      obtain ⟨xk, xn, xsx, xl, xfn, xfv⟩ := x
      obtain ⟨xla, xlc, xfa, xfc, rfl, _⟩ := hxr.inv
      obtain ⟨c0, c1, c2, c3, c4, c5⟩ := six (cells_later hbr hxS hxc)
      clear hxc
      have hl : Hid ((fv.take j).length = j) := by show _ = _; simp; omega
      obtain ⟨oa, oc, hof, hoc⟩ := hown.form
      rw [hl.out] at hof hoc
      subst hof
      go_wp2_with (first
        | (at_builtin; (refine wpList_append_val _ rfl _ _ 25 rfl w.heap.size 27 i0 _ Tryd.underlying25 hi hz0 hz1 hz2 rfl (· < w.heap.size) (fv.take j) _ j hl.out rfl (hown.keep (below_new _ _) (fun b hb => Nat.lt_of_lt_of_le hb hbr.size)) ⟨wr.heap.size, 0, none⟩ 1 [.int .i64 xk, .int .i64 xn, .string xsx, .slice xla xl.length xlc, .slice xfa xfv.length xfc] (.mk xk xn xsx xl xfn xfv) rfl (cells_new _ _ (by simp) _ _) (hxr.keep (fun _ h => h) (fun b hb => (hbr.step (below_new _ _)).block b hb)) (by omega) (fun _ h => h) (hbr.step (below_new _ _)).size ?_); intro v' w2 hown2 hg2 hlow))
      go_roundg (fv.length - (j + 1))
      case measure => omega
      case rel => exact ⟨j + 1, by omega, by go_num, (hbr.step (below_new _ _)).trans ⟨hg2.os, hg2.tape, hg2.output, hg2.size, hlow⟩, by rw [take_succ_of hx]; exact hown2⟩
    · obtain rfl : j = fv.length := by omega
      rw [List.take_length] at hown
      obtain ⟨oa, oc, rfl, hoc⟩ := hown.form
      have hrd := hid (hown.read (S' := Now wr) (fun b hb => Nat.lt_of_lt_of_le hb hbr.size) (fun b hb => hown.lt b hb) (by omega))
      clear hown
      go_wp2_with fail
      refine (hvc.out _ _ _ hrd.out).mono ?_
      rintro e w2 ⟨rfl, h2⟩
      go_wp2_with fail
      go_ret
      exact ⟨rfl, hbr.step h2⟩

theorem zero2_calls (V : PVal) (R : Bool) (hR : R = true ↔ V = zeroP) (w : World) (cs : List Value) (hV : Rd w (Now w) V cs) :
    Calls Tryd.prog 7 #[.agg cs.toArray] w fun e w' => e = .returned (.bool R) ∧ Below w.heap.size w w' := by
  have hs := hid (fun w cs cs' => same_calls V zeroP R hR w cs cs')
  have hV0 := hid hV
  clear hR
  obtain ⟨k, n, s, l, fn, fv⟩ := V
  obtain ⟨la, lc, fa, fc, rfl, _⟩ := hV.inv
  clear hV
  have hB0 := hid (below_new w (.cells #[.int .i64 k, .int .i64 n, .string s, .slice la l.length lc, .slice fa fv.length fc] 27))
  go_enter Tryd.func7, Tryd.ntmps7
  go_wp2_with fail
  refine (hs.out _ _ _ (hV0.out.later hB0.out) rdE_zero).mono ?_
  rintro e w1 ⟨rfl, h1⟩
  go_wp2_with fail
  go_ret
  exact ⟨rfl, hB0.out.step h1⟩
end Go.Proofs.YtckdgmjekfpcjaaDoor

namespace Go.Proofs.YtckdgmjekfpcjaaDoor
open Go.RowKit Go.Proofs

theorem Rd.five {w : World} {S : Nat → Prop} {V : PVal} {cs : List Value} (h : Rd w S V cs) : ∃ k n s la ln lc fa fl fc, cs = [.int .i64 k, .int .i64 n, .string s, .slice la ln lc, .slice fa fl fc] := by
  cases h
  exact ⟨_, _, _, _, _, _, _, _, _, rfl⟩

set_option maxRecDepth 100000 in
set_option maxHeartbeats 4000000 in
theorem findAt_calls {V : PVal} (hk : V.k = 6) (hlen : V.fv.length ≤ 1000000000) {nm : ByteArray} {p : Nat} {x : PVal} (hp : V.fn[p]? = some nm) (hx : V.fv[p]? = some x) (hbf : ∀ (j : Nat) a, j < p → V.fn[j]? = some a → a ≠ nm) {w : World} {cs : List Value} (hV : Rd w (Now w) V cs) :
    Calls Tryd.prog 9 #[.agg cs.toArray, .string nm] w fun e w' => ∃ cs', e = .returned (.tuple #[.agg cs'.toArray, .bool true]) ∧ Below w.heap.size w w' ∧ Rd w' (From w.heap.size w') x cs' := by
  have hcp := hid (fun (w' : World) cs (hr : Rd w' (Now w') x cs) => copy_calls x w' cs hr)
  obtain ⟨k, n, s, l, fn, fv⟩ := V
  simp only [PVal.k, PVal.fn, PVal.fv] at hk hlen hp hx hbf
  subst hk
  obtain ⟨la, lc, fa, fc, rfl, _, _, _, _, _, hfc, hfm, _, hF⟩ := hV.inv
  clear hV
  obtain ⟨N, hN⟩ : ∃ N, N = fv.length := ⟨_, rfl⟩
  have hfl := hid (hF.1.trans hN.symm)
  have hvl := hid hN.symm
  rw [← hN] at hF hlen hfc hfm ⊢
  replace hF := hid hF
  have hpN : p < N := by rw [hN]; exact (List.getElem?_eq_some_iff.1 hx).1
  clear hN
  replace hp := hid hp
  replace hx := hid hx
  replace hbf := hid hbf
  obtain ⟨w2, hw2⟩ : ∃ w2, w2 = (w.alloc (.cells #[.int .i64 6, .int .i64 n, .string s, .slice la l.length lc, .slice fa N fc] 27)).alloc (.cells #[.int .i64 0, .int .i64 0, .string ⟨#[]⟩, .slice none 0 0, .slice none 0 0] 27) := ⟨_, rfl⟩
  have hb2 : Hid (Below w.heap.size w w2) := by show Below _ _ _; rw [hw2]; exact (below_new w _).step (below_new _ _)
  have r2 : Hid (w2.heap[w.heap.size + 1]? = some (.cells #[.int .i64 0, .int .i64 0, .string ⟨#[]⟩, .slice none 0 0, .slice none 0 0] 27 (0, 0))) := by
    show _ = _
    rw [hw2]
    exact al_at (by simp)
  have r1 : Hid (w2.heap[w.heap.size]? = some (.cells #[.int .i64 6, .int .i64 n, .string s, .slice la l.length lc, .slice fa N fc] 27 (0, 0))) := by
    show _ = _
    rw [hw2]
    exact al_old (al_at rfl)
  go_enter Tryd.func9, Tryd.ntmps9
  go_upto_region 1 with fail
  rw [← hw2]
  clear hw2
  have d0 := box_at (j := 0) r1.out rfl
  have d1 := box_at (j := 1) r1.out rfl
  have d2 := box_at (j := 2) r1.out rfl
  have d3 := box_at (j := 3) r1.out rfl
  have d4 := box_at (j := 4) r1.out rfl
  go_wp2_with fail
  clear d0 d1 d2 d3 d4
  go_loopg [7, 15] p (fun g s7 s15 wr => ∃ j : Nat, g + j = p ∧ s15 = .int .i64 j ∧ Hid (Below w2.heap.size w2 wr))
  case atStart => exact ⟨0, by omega, rfl, Below.refl _ _⟩
  case round =>
    obtain ⟨j, hj, rfl, hbr⟩ := hrel
    have hbw := hid (hb2.out.step hbr.out)
    have hlt : (j : Int) < (N : Int) := by omega
    obtain ⟨a, ha⟩ : ∃ a, fn[j]? = some a := ⟨_, List.getElem?_eq_getElem (by rw [hfl.out]; omega)⟩
    obtain ⟨y, hy⟩ : ∃ y, fv[j]? = some y := ⟨_, List.getElem?_eq_getElem (by rw [hvl.out]; omega)⟩
    obtain ⟨b, off, ys, rfl, hSb, hc, hry, haz⟩ := hF.out.at_ ha hy
    obtain ⟨yk, yn, yt, ya, yl, yc, yf, ym, yg, rfl⟩ := hry.five
    have hc' := cells_later hbw.out hSb hc
    obtain ⟨c0, c1, c2, c3, c4, c5⟩ := six hc'
    replace hry := hid hry
    replace hSb := hid hSb
    clear hc hc' haz
    have e1 : IntKind.i64.wrap ((j : Int) + 1) = (j : Int) + 1 := by rw [IntWalk.i64_in _ (by omega)]
    replace ha := hid ha
    replace hy := hid hy
    go_upto_region 6 with fail
    clear c0 c1 c2 c3 c4 c5
    have hn := hid (below_new wr (.cells #[.string a, .int .i64 yk, .int .i64 yn, .string yt, .slice ya yl yc, .slice yf ym yg] 33))
    by_cases hjp : j = p
    · subst hjp
      obtain rfl : a = nm := by have := ha.out.symm.trans hp.out; injection this
      obtain rfl : y = x := by have := hy.out.symm.trans hx.out; injection this
      clear hbf hp hx ha hy
      have hee : (a.toList == a.toList) = true := by simp
      go_wp2_with fail
      refine (hcp.out _ _ (hry.out.later (hbw.out.step hn.out))).mono ?_
      rintro e w5 ⟨cs5, rfl, hr5, h5, _⟩
      obtain ⟨zk, zn, zt, za, zl, zc, zf, zm, zg, rfl⟩ : ∃ k n s la ln lc fa fl fc, cs5 = [.int .i64 k, .int .i64 n, .string s, .slice la ln lc, .slice fa fl fc] := by
        cases hr5
        exact ⟨_, _, _, _, _, _, _, _, _, rfl⟩
      have hS2 : Hid (w.heap.size + 1 < w2.heap.size) := lt_of_block r2.out
      have h25 := hid ((hbr.out.trans (hn.out.mono hbr.out.size)).trans (h5.mono (Nat.le_trans hbr.out.size hn.out.size)))
      have r5 := hid ((h25.out.block _ (lt_of_block r2.out)).trans r2.out)
      have DD := hid (hb2.out.step h25.out)
      have hfr : Hid (∀ c, From wr.heap.size w5 c → From w.heap.size w5 c ∧ c ≠ w.heap.size + 1) := fun c h => by
        have h1 := h.1
        have h2 := hS2.out
        have h3 := hbr.out.size
        exact ⟨⟨by omega, h.2⟩, by omega⟩
      have hr6 : Hid (Rd w5 (From wr.heap.size w5) y [.int .i64 zk, .int .i64 zn, .string zt, .slice za zl zc, .slice zf zm zg]) := hr5.keep (fun c h => ⟨Nat.le_trans hn.out.size h.1, h.2⟩) (fun _ _ => rfl)
      clear hr5 h5
      have c0 := box_at (j := 0) r5.out rfl
      have c1 := box_at (j := 1) r5.out rfl
      have c2 := box_at (j := 2) r5.out rfl
      have c3 := box_at (j := 3) r5.out rfl
      have c4 := box_at (j := 4) r5.out rfl
      have f0 := box_free r5.out
      go_wp2_with fail
      clear c0 c1 c2 c3 c4
      clear f0
      have hbz := hid (set5_below DD.out (Nat.le_succ _) (.int .i64 zk) (.int .i64 zn) (.string zt) (.slice za zl zc) (.slice zf zm zg))
      have rz := hid (set5_box (u0 := .int .i64 zk) (u1 := .int .i64 zn) (u2 := .string zt) (u3 := .slice za zl zc) (u4 := .slice zf zm zg) r5.out)
      have hkp := hid (fun bq (hb : bq ≠ w.heap.size + 1) => set5_other w5 (w.heap.size + 1) (.int .i64 zk) (.int .i64 zn) (.string zt) (.slice za zl zc) (.slice zf zm zg) (b := bq) hb)
      have hsz9 := hid (set5_size w5 (w.heap.size + 1) (.int .i64 zk) (.int .i64 zn) (.string zt) (.slice za zl zc) (.slice zf zm zg))
      unfold set5 at hbz rz hkp hsz9
      generalize ((((w5.setCell ⟨w.heap.size + 1, 0, none⟩ (.int .i64 zk)).setCell ⟨w.heap.size + 1, 1, none⟩ (.int .i64 zn)).setCell ⟨w.heap.size + 1, 2, none⟩ (.string zt)).setCell ⟨w.heap.size + 1, 3, none⟩ (.slice za zl zc)).setCell ⟨w.heap.size + 1, 4, none⟩ (.slice zf zm zg) = wz9 at *
      have z0 := box_at (j := 0) rz.out rfl
      have z1 := box_at (j := 1) rz.out rfl
      have z2 := box_at (j := 2) rz.out rfl
      have z3 := box_at (j := 3) rz.out rfl
      have z4 := box_at (j := 4) rz.out rfl
      refine ⟨rfl, _, by simp [results, Tryd.results9, go_sem, z0, z1, z2, z3, z4] <;> exact ⟨rfl, rfl⟩, [.int .i64 zk, .int .i64 zn, .string zt, .slice za zl zc, .slice zf zm zg], rfl, hbz.out, hr6.out.keep (fun c h => by have h9 := (hfr.out c h).1; exact ⟨h9.1, by show c < _; rw [hsz9.out]; exact h9.2⟩) (fun c h => hkp.out c (hfr.out c h).2)⟩
    · have hne : a ≠ nm := hbf.out j a (by omega) ha.out
      have hee : (a.toList == nm.toList) = false := ne_bytes hne
      clear hne
      have hb3 := hid (hbr.out.trans (hn.out.mono hbr.out.size))
      go_wp2_with fail
      go_roundg (p - (j + 1))
      case measure => omega
      case rel => exact ⟨j + 1, by omega, by go_num, hb3⟩
end Go.Proofs.YtckdgmjekfpcjaaDoor

namespace Go.Proofs.YtckdgmjekfpcjaaDoor

/-- Fields that rise by their names. -/
def UpF (fs : List (ByteArray × PVal)) : Prop := fs.Pairwise (fun a b => scmp a.1 b.1 < 0)
theorem upF_of {fs : List (ByteArray × PVal)} (h : rising (fs.map Prod.fst) = true) : UpF fs := by
  have := up_of h
  unfold Up at this
  rw [List.pairwise_map] at this
  exact this
theorem docs_same {fs gs : List (ByteArray × PVal)} (hf : UpF fs) (hp : fs.Perm gs) (hg : ∀ (i j : Nat) a b, i < j → (gs.map Prod.fst)[i]? = some a → (gs.map Prod.fst)[j]? = some b → ¬ scmp b a < 0) : gs = fs := by
  have hirr : ∀ x : ByteArray × PVal, ¬ scmp x.1 x.1 < 0 := fun x => by rw [scmp_self]; omega
  have hasym : ∀ x y : ByteArray × PVal, scmp x.1 y.1 < 0 → ¬ scmp y.1 x.1 < 0 := fun x y h k => by rw [scmp_anti] at k; omega
  have hne : fs.Pairwise (fun a b => a.1 ≠ b.1) := hf.imp fun {a b} h e => by rw [e] at h; exact hirr b h
  have hne' : gs.Pairwise (fun a b => a.1 ≠ b.1) := hp.pairwise hne fun {a b} h => h.symm
  have hup : UpF gs := by
    rw [List.pairwise_iff_getElem] at hne'
    unfold UpF
    rw [List.pairwise_iff_getElem]
    intro i j hi hj hij
    have h1 := hne' i j hi hj hij
    have h2 := hg i j gs[i].1 gs[j].1 hij (by simp [hi]) (by simp [hj])
    rw [scmp_anti] at h2
    have h3 : scmp gs[i].1 gs[j].1 ≠ 0 := fun h => h1 (scmp_zero.1 h)
    omega
  exact (strict_same hirr hasym hf hup hp).symm

theorem made_bad {fs : List (ByteArray × PVal)} (h : (madeP fs).2 ≠ 0) : (madeP fs).1 = zeroP := by
  unfold madeP at *
  split
  · rfl
  · split
    · rfl
    · rename_i h1 h2
      rw [if_neg h1, if_neg h2] at h
      exact absurd rfl h
theorem made_ok {fs : List (ByteArray × PVal)} (h : (madeP fs).2 = 0) : (madeP fs).1 = docL (fs.map Prod.fst) (fs.map Prod.snd) ∧ (docL (fs.map Prod.fst) (fs.map Prod.snd)).good = 0 := by
  unfold madeP at *
  split at h
  · simp at h
  · rename_i h1
    split at h
    · rename_i h2
      exact absurd h h2
    · rename_i h2
      rw [if_neg h1, if_neg h2]
      exact ⟨rfl, by simpa using h2⟩

theorem goodD_iff (v : PVal) : v.good = 0 ↔ v.all formedB = true ∧ v.all spelledB = true ∧ v.all fewB = true ∧ v.depth ≤ 8 ∧ v.size ≤ 2048 := by
  unfold PVal.good
  constructor
  · intro h
    split at h
    · simp at h
    split at h
    · simp at h
    split at h
    · simp at h
    split at h
    · simp at h
    split at h
    · simp at h
    rename_i h1 h2 h3 h4 h5
    exact ⟨by simpa using h1, by simpa using h2, by simpa using h3, by omega, by omega⟩
  · rintro ⟨h1, h2, h3, h4, h5⟩
    rw [if_neg (by simp [h1]), if_neg (by simp [h2]), if_neg (by simp [h3]), if_neg (by omega), if_neg (by omega)]
theorem depthD_mem {l : List PVal} {x : PVal} (h : x ∈ l) : x.depth ≤ depthL l := by
  induction l with
  | nil => cases h
  | cons y r ih =>
    rw [depthL]
    rcases List.mem_cons.1 h with rfl | h
    · omega
    · have := ih h; omega
theorem sizeD_mem {l : List PVal} {x : PVal} (h : x ∈ l) : x.size ≤ sizeL l := by
  induction l with
  | nil => cases h
  | cons y r ih =>
    rw [sizeL]
    rcases List.mem_cons.1 h with rfl | h
    · omega
    · have := ih h; omega
/-- What a good Doc's fields are. -/
theorem doc_good {nms : List ByteArray} {vls : List PVal} (h : (docL nms vls).good = 0) : rising nms = true ∧ vls.length ≤ 32 ∧ (∀ a ∈ nms, a.size ≤ 24) ∧ ∀ x ∈ vls, x.good = 0 := by
  rw [goodD_iff] at h
  obtain ⟨h1, h2, h3, h4, h5⟩ := h
  unfold docL at *
  rw [PVal.all, Bool.and_eq_true] at h1 h2 h3
  simp only [allL_eq] at h1 h2 h3
  have f1 := h1.1
  have f3 := h3.1
  rw [formedB] at f1
  rw [fewB] at f3
  simp only [Bool.and_eq_true, decide_eq_true_eq, List.all_eq_true] at f1 f3
  refine ⟨f1.2, f3.1.2, fun a ha => (f3.2 a ha).2, fun x hx => (goodD_iff x).2 ?_⟩
  have g1 : ∀ y ∈ vls, y.all formedB = true := List.all_eq_true.1 (by simpa using h1.2)
  have g2 : ∀ y ∈ vls, y.all spelledB = true := List.all_eq_true.1 (by simpa using h2.2)
  have g3 : ∀ y ∈ vls, y.all fewB = true := List.all_eq_true.1 (by simpa using h3.2)
  have hd := depthD_mem hx
  have hs := sizeD_mem hx
  rw [PVal.depth] at h4
  rw [PVal.size] at h5
  simp at h4 h5
  exact ⟨g1 x hx, g2 x hx, g3 x hx, by omega, by omega⟩

/-- What the law counts: each name's length, each value's size, and one. -/
def wantL : List (ByteArray × PVal) → Nat
  | [] => 0
  | x :: r => 1 + x.1.size + x.2.size + wantL r
theorem wantL_append (a b : List (ByteArray × PVal)) : wantL (a ++ b) = wantL a + wantL b := by
  induction a with
  | nil => simp [wantL]
  | cons x r ih => simp only [List.cons_append, wantL, ih]; omega
theorem wantL_succ {l : List (ByteArray × PVal)} {i : Nat} {x : ByteArray × PVal} (h : l[i]? = some x) : wantL (l.take (i + 1)) = wantL (l.take i) + (1 + x.1.size + x.2.size) := by
  rw [take_succ_of h, wantL_append]; simp [wantL]
theorem wantL_take_le (l : List (ByteArray × PVal)) (i : Nat) : wantL (l.take i) ≤ wantL l := by
  conv => rhs; rw [← List.take_append_drop i l, wantL_append]
  omega
theorem wantL_perm {a b : List (ByteArray × PVal)} (h : a.Perm b) : wantL a = wantL b := by
  induction h with
  | nil => rfl
  | cons x _ ih => simp only [wantL, ih]
  | swap x y l => simp only [wantL]; omega
  | trans _ _ h1 h2 => exact h1.trans h2
theorem nodesL_perm {a b : List PVal} (h : a.Perm b) : nodesL a = nodesL b := by
  induction h with
  | nil => rfl
  | cons x _ ih => simp only [nodesL, ih]
  | swap x y l => simp only [nodesL]; omega
  | trans _ _ h1 h2 => exact h1.trans h2
theorem names_want : ∀ {fs : List (ByteArray × PVal)}, (∀ a ∈ fs.map Prod.fst, a.size ≤ 24) → namesSize (fs.map Prod.fst) + sizeL (fs.map Prod.snd) = wantL fs
  | [], _ => rfl
  | x :: r, h => by
    have ih := names_want (fs := r) (fun a ha => h a (by rw [List.map_cons]; exact List.mem_cons_of_mem _ ha))
    have h1 := h x.1 (by simp)
    have hd : digits x.1.size = 1 := by rw [digits, if_pos (by omega)]
    simp only [List.map_cons, namesSize, sizeL, wantL, hd]
    omega
theorem doc_size {fs : List (ByteArray × PVal)} (h : (docL (fs.map Prod.fst) (fs.map Prod.snd)).good = 0) : (docL (fs.map Prod.fst) (fs.map Prod.snd)).size = 2 + wantL fs := by
  obtain ⟨_, h2, h3, _⟩ := doc_good h
  have hw := names_want h3
  have hd : digits (fs.map Prod.snd).length = 1 := by rw [digits, if_pos (by omega)]
  unfold docL
  rw [PVal.size]
  simp only [show ¬ ((6 : Int) = 2) by decide, show ¬ ((6 : Int) = 3) by decide, show ¬ ((6 : Int) = 4) by decide, show ¬ ((6 : Int) = 5) by decide, if_false, if_true, hd]
  omega

/-- Turned by so many places. -/
def turnF {α : Type} (l : List α) (r : Nat) : List α := l.drop r ++ l.take r
theorem turnF_perm {α : Type} (l : List α) (r : Nat) : l.Perm (turnF l r) := by
  unfold turnF
  refine List.Perm.trans ?_ List.perm_append_comm
  rw [List.take_append_drop]
theorem turnF_len {α : Type} (l : List α) (r : Nat) : (turnF l r).length = l.length := (turnF_perm l r).length_eq.symm
theorem turnF_at {α : Type} {l : List α} {m i : Nat} (hi : i < l.length) : (turnF l (m % l.length))[i]? = l[(i + m) % l.length]? := by
  have hr : m % l.length < l.length := Nat.mod_lt _ (by omega)
  have hmm : (i + m) % l.length = (i + m % l.length) % l.length := by rw [Nat.add_mod_mod]
  rw [hmm]
  generalize m % l.length = r at *
  unfold turnF
  by_cases h : i < l.length - r
  · rw [List.getElem?_append_left (by rw [List.length_drop]; exact h), List.getElem?_drop, Nat.mod_eq_of_lt (by omega), Nat.add_comm]
  · rw [List.getElem?_append_right (by rw [List.length_drop]; omega), List.length_drop, List.getElem?_take_of_lt (by omega)]
    have : (i + r) % l.length = i + r - l.length := by rw [Nat.mod_eq_sub_mod (by omega), Nat.mod_eq_of_lt (by omega)]
    rw [this]
    congr 1
    omega
end Go.Proofs.YtckdgmjekfpcjaaDoor
