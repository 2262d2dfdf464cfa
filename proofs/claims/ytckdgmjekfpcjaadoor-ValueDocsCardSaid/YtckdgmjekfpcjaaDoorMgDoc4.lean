/-
  Walk: the law ValueDocs.
-/
import Derived.Test.YtckdgmjekfpcjaaDoorMgDoc1
namespace Go.Proofs.YtckdgmjekfpcjaaDoor
open Go.RowKit Go.Proofs

/-- A Doc of fields in another order: so many nodes, and all of it fits. -/
theorem docs_fit {w : World} {fn : List ByteArray} {fv : List PVal} {v : Value} (hF : RdF w (Now w) fn fv v) {fs : List (ByteArray × PVal)} (hp : (fn.zip fv).Perm fs) :
    (docL (fs.map Prod.fst) (fs.map Prod.snd)).nodes = 1 + nodesL fv ∧ (docL (fs.map Prod.fst) (fs.map Prod.snd)).fits := by
  have hl := hF.1
  have h1 : nodesL (fs.map Prod.snd) = nodesL fv := by
    have := nodesL_perm (hp.map Prod.snd)
    rw [List.map_snd_zip (by omega)] at this
    exact this.symm
  have hf := (rdE_doc hF).fits
  refine ⟨by simp [docL, PVal.nodes, nodesL, h1]; omega, ?_⟩
  unfold docL at *
  simp only [PVal.fits, fitsL_iff, I64, Lim] at hf ⊢
  obtain ⟨f1, f2, f3, f4, f5, f6, f7, f8, f9⟩ := hf
  have hlen := hp.length_eq
  rw [List.length_zip] at hlen
  refine ⟨f1, f2, f3, fun x hx => ?_, by simp, f6, by rw [List.length_map]; omega, f8, fun x hx => ?_⟩
  · obtain ⟨z, hz, rfl⟩ := List.mem_map.1 hx
    obtain ⟨a, b⟩ := z
    exact f4 a (List.of_mem_zip (hp.mem_iff.2 hz)).1
  · obtain ⟨z, hz, rfl⟩ := List.mem_map.1 hx
    obtain ⟨a, b⟩ := z
    exact f9 b (List.of_mem_zip (hp.mem_iff.2 hz)).2
theorem zip_maps : ∀ l : List (ByteArray × PVal), (l.map Prod.fst).zip (l.map Prod.snd) = l
  | [] => rfl
  | x :: r => by rw [List.map_cons, List.map_cons, List.zip_cons_cons, zip_maps r]
theorem make_any {w : World} {fn : List ByteArray} {fv : List PVal} {la : Option Addr} {n c : Nat} (hF : RdF w (Now w) fn fv (.slice la n c)) (hT : Tabs w) (hn : nodesL fv < 5000) :
    Calls Tryd.prog 6 #[.slice la n c] w (MadeE (fn.zip fv) w) :=
  make_calls hF (by have := nodesL_length fv; omega) hT fun fs hp => by
    obtain ⟨h1, h2⟩ := docs_fit hF hp
    exact ⟨by omega, size_fits _ h2 (by omega)⟩

theorem perm_nodes {fn : List ByteArray} {fv : List PVal} (hl : fn.length = fv.length) {l : List (ByteArray × PVal)} (hp : (fn.zip fv).Perm l) : nodesL (l.map Prod.snd) = nodesL fv := by
  have := nodesL_perm (hp.map Prod.snd)
  rw [List.map_snd_zip (by omega)] at this
  exact this.symm
theorem Rd.lenF {w : World} {S : Nat → Prop} {V : PVal} {v0 v1 v2 v3 : Value} {f : Option Addr} {m g : Nat} (h : Rd w S V [v0, v1, v2, v3, .slice f m g]) : m = V.fv.length := by
  cases h
  rfl
theorem size_good {V : PVal} (hg : V.good = 0) (hn : V.nodes ≤ 20000) {w : World} {cs : List Value} (hT : Tabs w) (hV : Rd w (Now w) V cs) :
    Calls Tryd.prog 8 #[.agg cs.toArray] w fun e w' => e = .returned (.tuple #[.int .i64 (V.size : Int), .int .i64 0]) ∧ Below w.heap.size w w' := by
  have := size_tells V w cs hn hT hV
  rw [hg, if_pos rfl] at this
  exact this
theorem size_le {V : PVal} (hg : V.good = 0) : V.size ≤ 2048 := ((goodD_iff V).1 hg).2.2.2.2
/-- A field of a Doc found by its name. -/
theorem find_one {fs : List (ByteArray × PVal)} (hu : UpF fs) (hlen : fs.length ≤ 1000000000) {a : ByteArray} {x : PVal} (hm : (a, x) ∈ fs) {w : World} {cs : List Value} (hV : Rd w (Now w) (docL (fs.map Prod.fst) (fs.map Prod.snd)) cs) :
    Calls Tryd.prog 9 #[.agg cs.toArray, .string a] w fun e w' => ∃ cs', e = .returned (.tuple #[.agg cs'.toArray, .bool true]) ∧ Below w.heap.size w w' ∧ Rd w' (From w.heap.size w') x cs' := by
  obtain ⟨p, hp⟩ := List.getElem?_of_mem hm
  refine findAt_calls (p := p) rfl (by show (fs.map Prod.snd).length ≤ _; rw [List.length_map]; exact hlen) (by show (fs.map Prod.fst)[p]? = _; rw [List.getElem?_map, hp]; rfl) (by show (fs.map Prod.snd)[p]? = _; rw [List.getElem?_map, hp]; rfl) (fun j b hj hb => ?_) hV
  replace hb : (fs.map Prod.fst)[j]? = some b := hb
  rw [List.getElem?_map] at hb
  cases hfj : fs[j]? with
  | none => rw [hfj] at hb; cases hb
  | some z =>
    rw [hfj] at hb
    injection hb with hb
    subst hb
    unfold UpF at hu
    rw [List.pairwise_iff_getElem] at hu
    obtain ⟨hpl, hpe⟩ := List.getElem?_eq_some_iff.1 hp
    obtain ⟨hjl, hje⟩ := List.getElem?_eq_some_iff.1 hfj
    have h := hu j p hjl hpl hj
    rw [hpe, hje] at h
    intro e
    rw [e, scmp_self] at h
    omega

/-- What the region at a name's search reads. -/
def DocS (g b o : Nat) (v0 v1 v2 v3 v4 u : Value) (x : World) : Prop := x.cell? ⟨g, 0, none⟩ = some v0 ∧ x.cell? ⟨g, 1, none⟩ = some v1 ∧ x.cell? ⟨g, 2, none⟩ = some v2 ∧ x.cell? ⟨g, 3, none⟩ = some v3 ∧ x.cell? ⟨g, 4, none⟩ = some v4 ∧ x.cell? ⟨b, o, none⟩ = some u

/-- What the region at a value's comparing reads. -/
def DosS (g b o : Nat) (v0 v1 v2 v3 v4 u0 u1 u2 u3 u4 : Value) (x : World) : Prop := x.cell? ⟨g, 0, none⟩ = some v0 ∧ x.cell? ⟨g, 1, none⟩ = some v1 ∧ x.cell? ⟨g, 2, none⟩ = some v2 ∧ x.cell? ⟨g, 3, none⟩ = some v3 ∧ x.cell? ⟨g, 4, none⟩ = some v4 ∧ x.cell? ⟨b, o + 1, none⟩ = some u0 ∧ x.cell? ⟨b, o + 2, none⟩ = some u1 ∧ x.cell? ⟨b, o + 3, none⟩ = some u2 ∧ x.cell? ⟨b, o + 4, none⟩ = some u3 ∧ x.cell? ⟨b, o + 5, none⟩ = some u4

theorem wrap64_in {x : Int} (h1 : 0 ≤ x) (h2 : x ≤ 2048) : wrap64 x = x := by unfold wrap64; omega
theorem sum3_in {u a s : Nat} (h : u + 1 + a + s ≤ 2048) : wrap64 (wrap64 (wrap64 ((u : Int) + 1) + (a : Int)) + (s : Int)) = ((u + 1 + a + s : Nat) : Int) := by
  rw [wrap64_in (x := (u : Int) + 1) (by omega) (by omega), wrap64_in (x := (u : Int) + 1 + (a : Int)) (by omega) (by omega), wrap64_in (by omega) (by omega)]
  omega
/-- What the last region reads. -/
def DolS (g b : Nat) (v0 v1 v2 v3 v4 u0 u1 u2 u3 u4 : Value) (x : World) : Prop := x.cell? ⟨g, 0, none⟩ = some v0 ∧ x.cell? ⟨g, 1, none⟩ = some v1 ∧ x.cell? ⟨g, 2, none⟩ = some v2 ∧ x.cell? ⟨g, 3, none⟩ = some v3 ∧ x.cell? ⟨g, 4, none⟩ = some v4 ∧ x.cell? ⟨b, 0, none⟩ = some u0 ∧ x.cell? ⟨b, 1, none⟩ = some u1 ∧ x.cell? ⟨b, 2, none⟩ = some u2 ∧ x.cell? ⟨b, 3, none⟩ = some u3 ∧ x.cell? ⟨b, 4, none⟩ = some u4

set_option maxRecDepth 100000 in
set_option maxHeartbeats 8000000 in
theorem docs_calls {w : World} {fn : List ByteArray} {fv : List PVal} {la : Option Addr} {c : Nat} (hF : RdF w (Now w) fn fv (.slice la fv.length c)) (hT : Tabs w) (t : Int) :
    Calls Tryd.prog 3 #[.slice la fv.length c, .int .i64 t] w fun e w' => e = .returned (.bool true) ∧ Below w.heap.size w w' := by
  have haw := hid (awake_calls w hT)
  have hvf := hid (fun (w' : World) (h : Below w.heap.size w w') => vastF_calls (hF.later h) (by have := hF.2.2; obtain ⟨_, _, _, _, _, h9, _⟩ := this; exact h9.2))
  have hTw := hid (fun (w' : World) (h : Below w.heap.size w w') => Tabs.stays w w' hT h)
  have hvd : Hid (vast fv = decide (5000 ≤ nodesL fv)) := rfl
  generalize vast fv = T at *
  have hmk := hid (fun (w' : World) (h : Below w.heap.size w w') (hn : nodesL fv < 5000) => make_any (hF.later h) (Tabs.stays w w' hT h) hn)
  have hfit := hid (fun (fs : List (ByteArray × PVal)) (hp : (fn.zip fv).Perm fs) => docs_fit hF hp)
  have hnz := hid (fun (l : List (ByteArray × PVal)) (hp : (fn.zip fv).Perm l) => perm_nodes hF.1 hp)
  have hnx := hid (fun (x : PVal) (h : x ∈ fv) => nodes_mem h)
  have hN5 := hid (nodesL_length fv)
  obtain ⟨m, hm, hm2⟩ := and_mask t 1023 (by decide)
  replace hm : Hid (bits .and .i64 t 1023 = (m : Int)) := hm
  obtain ⟨i0, hi, hz0, hz1, hz2⟩ := info_parts info_fldc
  obtain ⟨ns, hns⟩ : ∃ q, q = nodesL fv := ⟨_, rfl⟩
  rw [← hns] at hvd hmk hfit hN5 hnx hnz
  obtain ⟨N, hN⟩ : ∃ q, q = fv.length := ⟨_, rfl⟩
  rw [← hN] at hvf hmk hN5 hF ⊢
  have hfl := hid (hF.1.trans hN.symm)
  have hvl := hid hN.symm
  replace hF := hid hF
  clear hN hns hT
  go_enter Tryd.func3, Tryd.ntmps3
  go_wp2_with fail
  refine haw.out.mono ?_
  rintro e w1 ⟨rfl, h1⟩
  clear haw
  replace h1 := hid h1
  go_wp2_with fail
  refine (hvf.out w1 h1.out).mono ?_
  rintro e w2 ⟨rfl, h2⟩
  have D := hid (h1.out.step h2)
  clear h1 h2 hvf
  cases T with
  | true =>
    go_wp2_with fail
    go_ret
    exact ⟨rfl, D.out⟩
  | false =>
  have hn5 : Hid (ns < 5000) := by have := hvd.out; show ns < 5000; simp at this; omega
  clear hvd
  go_wp2_with fail
  refine (hmk.out w2 D.out hn5.out).mono ?_
  rintro e w3 ⟨fs, cs, hp, hs, rfl, h3, hr⟩
  have hbad := hid (made_bad (fs := fs))
  have hok := hid (made_ok (fs := fs))
  obtain ⟨nms, hnms⟩ : ∃ q, q = madeP fs := ⟨_, rfl⟩
  rw [← hnms] at hbad hok hr ⊢
  replace hnms := hid hnms
  obtain ⟨DV, E⟩ := nms
  replace hbad : Hid (E ≠ 0 → DV = zeroP) := hbad
  replace hok : Hid (E = 0 → DV = docL (fs.map Prod.fst) (fs.map Prod.snd) ∧ (docL (fs.map Prod.fst) (fs.map Prod.snd)).good = 0) := hok
  replace hr : Rd w3 (Now w3) DV cs := hr
  obtain ⟨dk, dn, dt, da, dl, dc, df, dm, dg, rfl⟩ := hr.five
  replace hr := hid hr
  replace hp := hid hp
  replace hs := hid hs
  replace D := hid (D.out.step h3)
  clear h3
  have hz := hid (fun (W : World) (cs : List Value) (hE : E ≠ 0) (h : Rd W (Now W) DV cs) => zero2_calls DV true (by simp [hbad.out hE]) W cs h)
  clear hbad
  go_upto_region 6 with fail
  obtain ⟨w4, hw4⟩ : ∃ x, x = w3.alloc (.cells #[.int .i64 dk, .int .i64 dn, .string dt, .slice da dl dc, .slice df dm dg] 27) := ⟨_, rfl⟩
  have N4 : Hid (Below w3.heap.size w3 w4) := by show Below _ _ _; rw [hw4]; exact below_new _ _
  have r4 : Hid (w4.heap[w3.heap.size]? = some (.cells #[.int .i64 dk, .int .i64 dn, .string dt, .slice da dl dc, .slice df dm dg] 27 (0, 0))) := by show _ = _; rw [hw4]; exact heap_alloc_new _ _
  rw [← hw4]
  clear hw4
  have D4 := hid (D.out.step N4.out)
  have x4 := hid (hr.out.later N4.out)
  clear D hr
  by_cases hE : E = 0
  · subst hE
    obtain ⟨rfl, hgd⟩ := hok.out rfl
    clear hok hz
    obtain ⟨zs, hzs⟩ : ∃ q, q = fn.zip fv := ⟨_, rfl⟩
    rw [← hzs] at hp hfit hnz
    have hzl : Hid (zs.length = N) := by show _ = _; rw [hzs, List.length_zip, hfl.out, hvl.out, Nat.min_self]
    have hza : Hid (∀ (i : Nat) a x, fn[i]? = some a → fv[i]? = some x → zs[i]? = some (a, x)) := fun i a x h1 h2 => by rw [hzs, List.getElem?_zip_eq_some]; exact ⟨h1, h2⟩
    have hN5' : N ≤ ns := hN5.out
    have hns' : ns < 5000 := hn5.out
    have hturn : Hid (∀ i, i < N → (turnF zs (m % N))[i]? = zs[(i + m) % N]?) := fun i hi => by
      have := turnF_at (l := zs) (m := m) (i := i) (by rw [hzl.out]; exact hi)
      rw [hzl.out] at this
      exact this
    have htp := hid (turnF_perm zs (m % N))
    have htl : Hid ((turnF zs (m % N)).length = N) := (turnF_len zs (m % N)).trans hzl.out
    generalize turnF zs (m % N) = ts at *
    go_wp2_with fail
    go_loopg [7, 8] N (fun g s7 s8 wr => ∃ (j : Nat), g + j = N ∧ s8 = .int .i64 j ∧ Hid (OwnG RdFl 6 w4.heap.size 0 33 wr (ts.take j) s7) ∧ Hid (Below w4.heap.size w4 wr))
    case atStart => exact ⟨0, by omega, rfl, OwnG.nil _, Below.refl _ _⟩
    case round =>
      obtain ⟨j, hj, rfl, hown, hbr⟩ := hrel
      obtain ⟨oa, oc, hof, hoc⟩ := hown.out.form
      have hl : Hid (j ≤ N → (ts.take j).length = j) := fun h => by rw [List.length_take, htl.out]; omega
      by_cases hlt : j < N
      · rw [hl.out (by omega)] at hof hoc
        subst hof
        have hlti : (j : Int) < (N : Int) := by omega
        obtain ⟨q, hq⟩ : ∃ q, q = (j + m) % N := ⟨_, rfl⟩
        have hqN : q < N := by rw [hq]; exact Nat.mod_lt _ (by omega)
        obtain ⟨a, ha⟩ : ∃ a, fn[q]? = some a := ⟨_, List.getElem?_eq_getElem (by rw [hfl.out]; exact hqN)⟩
        obtain ⟨x, hx⟩ : ∃ x, fv[q]? = some x := ⟨_, List.getElem?_eq_getElem (by rw [hvl.out]; exact hqN)⟩
        have htj : Hid (ts[j]? = some (a, x)) := by
          show _ = _
          rw [hturn.out j hlt, ← hq]
          exact hza.out q a x ha hx
        obtain ⟨b, off, ys, rfl, hSb, hc, hry, haz⟩ := hF.out.at_ ha hx
        obtain ⟨yk, yn, yt, ya, yl, yc, yf, ym, yg, rfl⟩ := hry.five
        have hDr := hid (D4.out.step hbr.out)
        obtain ⟨c0, c1, c2, c3, c4, c5⟩ := six (cells_later hDr.out hSb hc)
        clear hc ha hx
        have hB8 := hid (below_new wr (.cells #[.string a, .int .i64 yk, .int .i64 yn, .string yt, .slice ya yl yc, .slice yf ym yg] 33))
        have hown8 := hid (hown.out.later fldRel hB8.out)
        have hx8 : Hid (RdFl (wr.alloc (.cells #[.string a, .int .i64 yk, .int .i64 yn, .string yt, .slice ya yl yc, .slice yf ym yg] 33)) (Apart 0 (wr.alloc (.cells #[.string a, .int .i64 yk, .int .i64 yn, .string yt, .slice ya yl yc, .slice yf ym yg] 33)) (.slice oa j oc)) (a, x) [.string a, .int .i64 yk, .int .i64 yn, .string yt, .slice ya yl yc, .slice yf ym yg]) :=
          ⟨_, rfl, haz, hry.keep (fun c hc => ⟨Nat.zero_le _, Nat.lt_of_lt_of_le hc (Nat.le_trans hDr.out.size hB8.out.size), fun e => by have h1 := (hown.out.lt c e).1; have h2 := D4.out.size; have h3 : c < w.heap.size := hc; omega⟩) (fun c hc => (hDr.out.step hB8.out).block c hc)⟩
        clear hry
        have e1 : IntKind.i64.wrap ((j : Int) + (m : Int)) = ((j + m : Nat) : Int) := by rw [IntWalk.i64_in _ (by omega)]; omega
        have e2 : Int.tmod ((j + m : Nat) : Int) (N : Int) = (q : Int) := by rw [hq]; exact (Int.ofNat_tmod _ _).symm
        have e5 : Int.tmod (wrap64 ((j : Int) + bits .and .i64 t 1023)) (N : Int) = (q : Int) := by
          rw [hm.out, show wrap64 ((j : Int) + (m : Int)) = ((j + m : Nat) : Int) by unfold wrap64; omega]; exact e2
        have e3 : IntKind.i64.wrap ((j : Int) + 1) = (j : Int) + 1 := by rw [IntWalk.i64_in _ (by omega)]
        have hN0 : ((N : Int) == 0) = false := by simp; omega
        have hqi : (q : Int) < (N : Int) := by omega
        replace hq := hid hq
        clear e1 e2
        replace hoc := hid hoc
        go_wp2_with (first
          | (at_builtin; (refine wpList_append_g fldRel _ rfl _ _ 22 rfl w4.heap.size 0 33 96 i0 _ Tryd.underlying22 hi hz0 hz1 hz2 rfl (by decide) (ts.take j) _ rfl hown8.out ⟨wr.heap.size, 0, none⟩ 1 [.string a, .int .i64 yk, .int .i64 yn, .string yt, .slice ya yl yc, .slice yf ym yg] (a, x) rfl (cells_new _ _ rfl _ _) hx8.out (by rw [hl.out (by omega)]; omega) (by rw [hl.out (by omega)]; unfold maxLen; omega) (Nat.le_trans hbr.out.size hB8.out.size) ?_); intro v9 w9 hown9 hg9 hlow9 hst9; have hb9 := hid (grown_from hown8.out hg9 (Nat.le_trans hbr.out.size hB8.out.size)); replace hown9 := hid hown9; clear hg9 hlow9 hst9))
        go_roundg (N - (j + 1))
        case measure => omega
        case rel => exact ⟨j + 1, by omega, by go_num, by show OwnG _ _ _ _ _ _ _ _; rw [take_succ_of htj.out]; exact hown9.out, (hbr.out.step hB8.out).trans hb9.out⟩
      · obtain rfl : N = j := by omega
        have hta : ts.take N = ts := List.take_of_length_le (by rw [htl.out]; exact Nat.le_refl _)
        rw [hta] at hown hof hoc
        rw [htl.out] at hof hoc
        subst hof
        clear hl hta hj hlt hturn hm
        replace hoc := hid hoc
        have hF2 := hid (hown.out.readF (S := Now wr) (fun b hb => (hown.out.lt b hb).2) (fun b hb => hb.2.1) (by rw [htl.out]; omega))
        have hDr := hid (D4.out.step hbr.out)
        have hmk2 : Hid (Calls Tryd.prog 6 #[.slice oa N oc] wr (MadeE ts wr)) := by
          have := make_any hF2.out (hTw.out wr hDr.out) (by rw [hnz.out ts htp.out]; exact hns')
          rw [zip_maps] at this
          exact this
        clear hown hF2 hmk
        go_wp2_with fail
        refine hmk2.out.mono ?_
        rintro e w5 ⟨gs, cs5, hp5, hs5, rfl, h5, hr5⟩
        obtain rfl : fs = gs := (docs_same (upF_of (doc_good hgd).1) ((hp.out.symm.trans htp.out).trans hp5) hs5).symm
        rw [← hnms.out] at hr5 ⊢
        clear hs5 hp5 hmk2 htp htl
        replace hr5 : Rd w5 (Now w5) (docL (fs.map Prod.fst) (fs.map Prod.snd)) cs5 := hr5
        obtain ⟨xk, xn, xt, xa, xl, xc, xf, xm, xg, rfl⟩ := hr5.five
        go_upto_region 14 with fail
        obtain ⟨w6, hw6⟩ : ∃ x, x = w5.alloc (.cells #[.int .i64 xk, .int .i64 xn, .string xt, .slice xa xl xc, .slice xf xm xg] 27) := ⟨_, rfl⟩
        have N6 : Hid (Below w5.heap.size w5 w6) := by show Below _ _ _; rw [hw6]; exact below_new _ _
        have r6 : Hid (w6.heap[w5.heap.size]? = some (.cells #[.int .i64 xk, .int .i64 xn, .string xt, .slice xa xl xc, .slice xf xm xg] 27 (0, 0))) := by show _ = _; rw [hw6]; exact heap_alloc_new _ _
        rw [← hw6]
        clear hw6
        have H6 := hid (hbr.out.trans ((h5.step N6.out).mono hbr.out.size))
        have D6 := hid (D4.out.step H6.out)
        have rd6 := hid ((H6.out.block _ (lt_of_block r4.out)).trans r4.out)
        have xd6 := hid (x4.out.later H6.out)
        have xx6 := hid (hr5.later N6.out)
        obtain rfl : N = dm := by
          have := xd6.out.lenF
          have h2 := hp.out.length_eq
          have h3 := hzl.out
          simp only [docL, PVal.fv, List.length_map] at this
          omega
        have hsz := hid (size_good hgd (by have := (hfit.out fs hp.out).1; omega) (hTw.out w6 D6.out) xd6.out)
        rw [doc_size hgd] at hsz
        clear r4 x4 D4 hr5 h5 N6 hbr hDr
        obtain ⟨W, hW⟩ : ∃ q, q = wantL fs := ⟨_, rfl⟩
        have hWb : 2 + W ≤ 2048 := by have := size_le hgd; rw [doc_size hgd] at this; omega
        have hWz : Hid (wantL zs = W) := by show _ = _; rw [hW]; exact wantL_perm hp.out
        rw [← hW] at hsz
        clear hW
        have d0 := box_at (j := 0) rd6.out rfl
        have d1 := box_at (j := 1) rd6.out rfl
        have d2 := box_at (j := 2) rd6.out rfl
        have d3 := box_at (j := 3) rd6.out rfl
        have d4 := box_at (j := 4) rd6.out rfl
        go_wp2_with fail
        refine hsz.out.mono ?_
        rintro e w7 ⟨rfl, h7⟩
        clear d0 d1 d2 d3 d4
        clear hsz
        have D7 := hid (D6.out.step h7)
        have rd7 := hid ((h7.block _ (lt_of_block rd6.out)).trans rd6.out)
        have rx7 := hid ((h7.block _ (lt_of_block r6.out)).trans r6.out)
        have xd7 := hid (xd6.out.later h7)
        have xx7 := hid (xx6.out.later h7)
        clear rd6 r6 xd6 xx6 D6 H6 h7
        go_wp2_with fail
        go_loopg [13, 14, 15, 16, 17, 18] N (fun g s13 s14 s15 s16 s17 s18 wr => ∃ (j wj : Nat), g + j = N ∧ s13 = .int .i64 (wj : Int) ∧ s14 = .int .i64 j ∧ Hid (wj = 2 + wantL (zs.take j)) ∧ Hid (Below w7.heap.size w7 wr))
        case atStart => exact ⟨0, 2, by omega, rfl, rfl, rfl, Below.refl _ _⟩
        case round =>
          obtain ⟨j, wj, hj, rfl, rfl, hwj, hbr⟩ := hrel
          have hDr := hid (D7.out.step hbr.out)
          have rdr := hid ((hbr.out.block _ (lt_of_block rd7.out)).trans rd7.out)
          by_cases hlt : j < N
          · have hlti : (j : Int) < (N : Int) := by omega
            obtain ⟨a, ha⟩ : ∃ a, fn[j]? = some a := ⟨_, List.getElem?_eq_getElem (by rw [hfl.out]; exact hlt)⟩
            obtain ⟨x, hx⟩ : ∃ x, fv[j]? = some x := ⟨_, List.getElem?_eq_getElem (by rw [hvl.out]; exact hlt)⟩
            have hzj : zs[j]? = some (a, x) := hza.out j a x ha hx
            have hwj2 : Hid (wj + 1 + a.size + x.size = 2 + wantL (zs.take (j + 1))) := by show _ = _; rw [wantL_succ hzj, hwj.out]; dsimp only; omega
            have hle : wj + 1 + a.size + x.size ≤ 2 + W := by rw [hwj2.out, ← hWz.out]; exact Nat.add_le_add_left (wantL_take_le _ _) _
            have hfm : (a, x) ∈ fs := hp.out.mem_iff.1 (List.mem_of_getElem? hzj)
            have hxg : x.good = 0 := (doc_good hgd).2.2.2 x (List.mem_map.2 ⟨(a, x), hfm, rfl⟩)
            have hfi := hid (fun (w' : World) (h : Below wr.heap.size wr w') => find_one (upF_of (doc_good hgd).1) (by have := hp.out.length_eq; have := hzl.out; omega) hfm (xd7.out.later (hbr.out.step h)))
            obtain ⟨b, off, ys, rfl, hSb, hc, hry, haz⟩ := hF.out.at_ ha hx
            obtain ⟨yk, yn, yt, ya, yl, yc, yf, ym, yg, rfl⟩ := hry.five
            have hxn : Hid (x.nodes ≤ 20000) := by show _ ≤ _; have := hnx.out x (List.mem_of_getElem? hx); omega
            have hsx := hid (fun (w' : World) (h : Below wr.heap.size wr w') => size_good hxg hxn.out (hTw.out w' (hDr.out.step h)) (hry.later (hDr.out.step h)))
            have hsm := hid (fun (w' : World) (h : Below wr.heap.size wr w') (cs : List Value) (hr : Rd w' (Now w') x cs) => same2_calls x x true (by simp) w' cs _ hr (hry.later (hDr.out.step h)))
            obtain ⟨c0, c1, c2, c3, c4, c5⟩ := six (cells_later hDr.out hSb hc)
            obtain ⟨sx, hsx'⟩ : ∃ q, q = x.size := ⟨_, rfl⟩
            rw [← hsx'] at hsx hwj2 hle
            clear hsx' hc hry haz ha hzj hfm hxg hxn
            replace hx := hid hx
            replace hSb := hid hSb
            replace hle := hid hle
            have hS9 : Hid (∀ x : World, (∀ c, c < wr.heap.size → x.heap[c]? = wr.heap[c]?) → (DocS w3.heap.size b (off + j * 6) (.int .i64 dk) (.int .i64 dn) (.string dt) (.slice da dl dc) (.slice df N dg) (.string a)) x) := fun x h => by
              have hB := (h _ (lt_of_block rdr.out)).trans rdr.out
              have hg := h b (Nat.lt_of_lt_of_le hSb.out hDr.out.size)
              exact ⟨box_at (j := 0) hB rfl, box_at (j := 1) hB rfl, box_at (j := 2) hB rfl, box_at (j := 3) hB rfl, box_at (j := 4) hB rfl, (World.cell?_of_block (w := wr) (a := ⟨b, off + j * 6, none⟩) hg).trans c0⟩
            go_upto_region 19 with fail
            go_cut [15, 16] from 67 to 76 (fun s15 s16 wx => ∃ (gx : Nat) (v0 v1 v2 v3 v4 : Value), s15 = .pointer (some ⟨gx, 0, none⟩) ∧ s16 = .bool true ∧ wx.heap[gx]? = some (.cells #[v0, v1, v2, v3, v4] 27 (0, 0)) ∧ Rd wx (Now wx) x [v0, v1, v2, v3, v4] ∧ Below wr.heap.size wr wx)
            case first =>
              clear c0 c1 c2 c3 c4 c5
              refine wp_region_T (DocS w3.heap.size b (off + j * 6) (.int .i64 dk) (.int .i64 dn) (.string dt) (.slice da dl dc) (.slice df N dg) (.string a)) 13 (by kernel_rfl) ?_
              have hT0 := hS9.out wr.drew (fun _ _ => rfl)
              ((refine wpAnyT_take (i := 0) (v := ?_) rfl (by kernel_rfl) (by kernel_rfl) (by kernel_rfl) (by kernel_rfl) (by exact fun _ _ _ h => h) (Or.inl ⟨by kernel_rfl, ?_⟩) hT0 ?_; rotate_left 1; focus (intro w hSw; unfold DocS at hSw; (try dsimp only at hSw); go_simp; try with_reducible rfl); (try simp only [List.getElem_toArray, List.getElem_cons_zero, List.getElem_cons_succ, Act.put, List.setIfInBounds_toArray, List.set_cons_zero, List.set_cons_succ])); (refine wpAnyT_take (i := 1) (v := ?_) rfl (by kernel_rfl) (by kernel_rfl) (by kernel_rfl) (by kernel_rfl) (by exact fun _ _ _ h => h) (Or.inl ⟨by kernel_rfl, ?_⟩) hT0 ?_; rotate_left 1; focus (intro w hSw; unfold DocS at hSw; (try dsimp only at hSw); go_simp; try with_reducible rfl); (try simp only [List.getElem_toArray, List.getElem_cons_zero, List.getElem_cons_succ, Act.put, List.setIfInBounds_toArray, List.set_cons_zero, List.set_cons_succ])); (refine wpAnyT_take (i := 2) (v := ?_) rfl (by kernel_rfl) (by kernel_rfl) (by kernel_rfl) (by kernel_rfl) (by exact fun _ _ _ h => h) (Or.inl ⟨by kernel_rfl, ?_⟩) hT0 ?_; rotate_left 1; focus (intro w hSw; unfold DocS at hSw; (try dsimp only at hSw); go_simp; try with_reducible rfl); (try simp only [List.getElem_toArray, List.getElem_cons_zero, List.getElem_cons_succ, Act.put, List.setIfInBounds_toArray, List.set_cons_zero, List.set_cons_succ])); (refine wpAnyT_take (i := 3) (v := ?_) rfl (by kernel_rfl) (by kernel_rfl) (by kernel_rfl) (by kernel_rfl) (by exact fun _ _ _ h => h) (Or.inl ⟨by kernel_rfl, ?_⟩) hT0 ?_; rotate_left 1; focus (intro w hSw; unfold DocS at hSw; (try dsimp only at hSw); go_simp; try with_reducible rfl); (try simp only [List.getElem_toArray, List.getElem_cons_zero, List.getElem_cons_succ, Act.put, List.setIfInBounds_toArray, List.set_cons_zero, List.set_cons_succ])); (refine wpAnyT_take (i := 4) (v := ?_) rfl (by kernel_rfl) (by kernel_rfl) (by kernel_rfl) (by kernel_rfl) (by exact fun _ _ _ h => h) (Or.inl ⟨by kernel_rfl, ?_⟩) hT0 ?_; rotate_left 1; focus (intro w hSw; unfold DocS at hSw; (try dsimp only at hSw); go_simp; try with_reducible rfl); (try simp only [List.getElem_toArray, List.getElem_cons_zero, List.getElem_cons_succ, Act.put, List.setIfInBounds_toArray, List.set_cons_zero, List.set_cons_succ])); (refine wpAnyT_take (i := 5) (v := ?_) rfl (by kernel_rfl) (by kernel_rfl) (by kernel_rfl) (by kernel_rfl) (by exact fun _ _ _ h => h) (Or.inl ⟨by kernel_rfl, ?_⟩) hT0 ?_; rotate_left 1; focus (intro w hSw; unfold DocS at hSw; (try dsimp only at hSw); go_simp; try with_reducible rfl); (try simp only [List.getElem_toArray, List.getElem_cons_zero, List.getElem_cons_succ, Act.put, List.setIfInBounds_toArray, List.set_cons_zero, List.set_cons_succ])))
              refine wpAnyT_two (i := 6) (j := 10) (by kernel_rfl) rfl rfl (fun K hK => ?_) (fun K hK => ?_)
              · go_simp
                refine (hfi.out wr.drew (Below.refl wr.heap.size wr).drew).mono ?_
                rintro e w8 ⟨cs8, rfl, h8, hr8⟩
                obtain ⟨zk, zn, zt, za, zl, zc, zf, zm, zg, rfl⟩ := hr8.five
                have E := hid ((Below.refl wr.heap.size wr).drew.step h8)
                have hT1 := hS9.out _ E.out.block
                replace hr8 := hid hr8
                clear h8 hT0
                (refine hK.out _ _ (fun _ => hT1) (fun _ => ?_); clear hK K; (try simp only [Act.put, List.setIfInBounds_toArray, List.set_cons_zero, List.set_cons_succ]))
                ((refine wpAnyT_take (i := 7) (v := ?_) rfl (by kernel_rfl) (by kernel_rfl) (by kernel_rfl) (by kernel_rfl) (by exact fun _ _ _ h => h) (Or.inl ⟨by kernel_rfl, ?_⟩) hT1 ?_; rotate_left 1; focus (intro w hSw; unfold DocS at hSw; (try dsimp only at hSw); go_simp; try with_reducible rfl); (try simp only [List.getElem_toArray, List.getElem_cons_zero, List.getElem_cons_succ, Act.put, List.setIfInBounds_toArray, List.set_cons_zero, List.set_cons_succ])); (refine wpAnyT_take (i := 8) (v := ?_) rfl (by kernel_rfl) (by kernel_rfl) (by kernel_rfl) (by kernel_rfl) (by exact fun _ _ _ h => h) (Or.inl ⟨by kernel_rfl, ?_⟩) hT1 ?_; rotate_left 1; focus (intro w hSw; unfold DocS at hSw; (try dsimp only at hSw); go_simp; try with_reducible rfl); (try simp only [List.getElem_toArray, List.getElem_cons_zero, List.getElem_cons_succ, Act.put, List.setIfInBounds_toArray, List.set_cons_zero, List.set_cons_succ])); (refine wpAnyT_take (i := 9) (v := ?_) rfl (by kernel_rfl) (by kernel_rfl) (by kernel_rfl) (by kernel_rfl) (by exact fun _ _ _ h => h) (Or.inl ⟨by kernel_rfl, ?_⟩) hT1 ?_; rotate_left 1; focus (intro w hSw; unfold DocS at hSw; (try dsimp only at hSw); go_simp; try with_reducible rfl); (try simp only [List.getElem_toArray, List.getElem_cons_zero, List.getElem_cons_succ, Act.put, List.setIfInBounds_toArray, List.set_cons_zero, List.set_cons_succ])))
                refine wpAnyT_one (i := 10) (by kernel_rfl) rfl (fun K hK => ?_)
                go_simp
                have E2 := hid (E.out.step (below_new w8 (.cells #[.int .i64 0, .int .i64 0, .string ⟨#[]⟩, .slice none 0 0, .slice none 0 0] 27)))
                have hT2 := hS9.out _ E2.out.block
                clear hT1
                (refine hK.out _ _ (fun _ => hT2) (fun _ => ?_); clear hK K; (try simp only [Act.put, List.setIfInBounds_toArray, List.set_cons_zero, List.set_cons_succ]))
                refine wpAnyT_one (i := 11) (by kernel_rfl) rfl (fun K hK => ?_)
                go_simp
                have E3 := hid (E.out.step (below_new w8 (.cells #[.int .i64 zk, .int .i64 zn, .string zt, .slice za zl zc, .slice zf zm zg] 27)))
                have hT3 := hS9.out _ E3.out.block
                clear hT2
                (refine hK.out _ _ (fun _ => hT3) (fun _ => ?_); clear hK K; (try simp only [Act.put, List.setIfInBounds_toArray, List.set_cons_zero, List.set_cons_succ]))
                refine wpAnyT_one (i := 12) (by kernel_rfl) rfl (fun K hK => ?_)
                go_simp
                (refine hK.out _ _ (fun _ => hT3) (fun _ => ?_); clear hK K; (try simp only [Act.put, List.setIfInBounds_toArray, List.set_cons_zero, List.set_cons_succ]))
                refine wpAnyT_done (by kernel_rfl) ?_ _
                go_wp2_with fail
                go_meet
                exact ⟨_, _, _, _, _, _, rfl, rfl, heap_alloc_new w8 _, hr8.out.keep (fun c h => Nat.lt_of_lt_of_le h.2 (below_new w8 _).size) (fun c h => (below_new w8 _).block c h.2), E3.out⟩
              · go_simp
                obtain ⟨wg, hwg⟩ : ∃ wg, wg = wr.alloc (.cells #[.int .i64 0, .int .i64 0, .string ⟨#[]⟩, .slice none 0 0, .slice none 0 0] 27) := ⟨_, rfl⟩
                have E1 : Hid (Below wr.heap.size wr wg) := by show Below _ _ _; rw [hwg]; exact below_new _ _
                have gz : Hid (wg.heap[wr.heap.size]? = some (.cells #[.int .i64 0, .int .i64 0, .string ⟨#[]⟩, .slice none 0 0, .slice none 0 0] 27 (0, 0))) := by show _ = _; rw [hwg]; exact heap_alloc_new _ _
                have gs : Hid (wg.heap.size = wr.heap.size + 1) := by show _ = _; rw [hwg]; simp
                rw [← hwg]
                clear hwg
                have hT1 := hS9.out wg.drew E1.out.block
                clear hT0
                (refine hK.out _ _ (fun _ => hT1) (fun _ => ?_); clear hK K; (try simp only [Act.put, List.setIfInBounds_toArray, List.set_cons_zero, List.set_cons_succ]))
                refine wpAnyT_one (i := 6) (by kernel_rfl) rfl (fun K hK => ?_)
                go_simp
                refine (hfi.out wg.drew (E1.out.step (Below.refl wg.heap.size wg).drew)).mono ?_
                rintro e w8 ⟨cs8, rfl, h8, hr8⟩
                obtain ⟨zk, zn, zt, za, zl, zc, zf, zm, zg, rfl⟩ := hr8.five
                have E := hid (E1.out.step ((Below.refl wg.heap.size wg).drew.step h8))
                have g8 := hid (((Below.refl wg.heap.size wg).drew.step h8).block _ (lt_of_block gz.out) |>.trans gz.out)
                have hT2 := hS9.out _ E.out.block
                replace hr8 := hid hr8
                clear h8 hT1
                (refine hK.out _ _ (fun _ => hT2) (fun _ => ?_); clear hK K; (try simp only [Act.put, List.setIfInBounds_toArray, List.set_cons_zero, List.set_cons_succ]))
                ((refine wpAnyT_take (i := 7) (v := ?_) rfl (by kernel_rfl) (by kernel_rfl) (by kernel_rfl) (by kernel_rfl) (by exact fun _ _ _ h => h) (Or.inl ⟨by kernel_rfl, ?_⟩) hT2 ?_; rotate_left 1; focus (intro w hSw; unfold DocS at hSw; (try dsimp only at hSw); go_simp; try with_reducible rfl); (try simp only [List.getElem_toArray, List.getElem_cons_zero, List.getElem_cons_succ, Act.put, List.setIfInBounds_toArray, List.set_cons_zero, List.set_cons_succ])); (refine wpAnyT_take (i := 8) (v := ?_) rfl (by kernel_rfl) (by kernel_rfl) (by kernel_rfl) (by kernel_rfl) (by exact fun _ _ _ h => h) (Or.inl ⟨by kernel_rfl, ?_⟩) hT2 ?_; rotate_left 1; focus (intro w hSw; unfold DocS at hSw; (try dsimp only at hSw); go_simp; try with_reducible rfl); (try simp only [List.getElem_toArray, List.getElem_cons_zero, List.getElem_cons_succ, Act.put, List.setIfInBounds_toArray, List.set_cons_zero, List.set_cons_succ])); (refine wpAnyT_take (i := 9) (v := ?_) rfl (by kernel_rfl) (by kernel_rfl) (by kernel_rfl) (by kernel_rfl) (by exact fun _ _ _ h => h) (Or.inl ⟨by kernel_rfl, ?_⟩) hT2 ?_; rotate_left 1; focus (intro w hSw; unfold DocS at hSw; (try dsimp only at hSw); go_simp; try with_reducible rfl); (try simp only [List.getElem_toArray, List.getElem_cons_zero, List.getElem_cons_succ, Act.put, List.setIfInBounds_toArray, List.set_cons_zero, List.set_cons_succ])))
                have c0 := box_at (j := 0) g8.out rfl
                have c1 := box_at (j := 1) g8.out rfl
                have c2 := box_at (j := 2) g8.out rfl
                have c3 := box_at (j := 3) g8.out rfl
                have c4 := box_at (j := 4) g8.out rfl
                have f0 := box_free g8.out
                refine wpAnyT_one (i := 11) (by kernel_rfl) rfl (fun K hK => ?_)
                go_simp
                clear c0 c1 c2 c3 c4
                clear f0
                have hbz := hid (set5_below E.out (Nat.le_refl _) (.int .i64 zk) (.int .i64 zn) (.string zt) (.slice za zl zc) (.slice zf zm zg))
                have rz := hid (set5_box (u0 := .int .i64 zk) (u1 := .int .i64 zn) (u2 := .string zt) (u3 := .slice za zl zc) (u4 := .slice zf zm zg) g8.out)
                have hkp := hid (fun bq (hb : bq ≠ wr.heap.size) => set5_other w8 (wr.heap.size) (.int .i64 zk) (.int .i64 zn) (.string zt) (.slice za zl zc) (.slice zf zm zg) (b := bq) hb)
                have hsz9 := hid (set5_size w8 (wr.heap.size) (.int .i64 zk) (.int .i64 zn) (.string zt) (.slice za zl zc) (.slice zf zm zg))
                unfold set5 at hbz rz hkp hsz9
                generalize ((((w8.setCell ⟨wr.heap.size, 0, none⟩ (.int .i64 zk)).setCell ⟨wr.heap.size, 1, none⟩ (.int .i64 zn)).setCell ⟨wr.heap.size, 2, none⟩ (.string zt)).setCell ⟨wr.heap.size, 3, none⟩ (.slice za zl zc)).setCell ⟨wr.heap.size, 4, none⟩ (.slice zf zm zg) = w9 at *
                have hT3 := hS9.out _ hbz.out.block
                clear hT2
                (refine hK.out _ _ (fun _ => hT3) (fun _ => ?_); clear hK K; (try simp only [Act.put, List.setIfInBounds_toArray, List.set_cons_zero, List.set_cons_succ]))
                refine wpAnyT_one (i := 12) (by kernel_rfl) rfl (fun K hK => ?_)
                go_simp
                (refine hK.out _ _ (fun _ => hT3) (fun _ => ?_); clear hK K; (try simp only [Act.put, List.setIfInBounds_toArray, List.set_cons_zero, List.set_cons_succ]))
                refine wpAnyT_done (by kernel_rfl) ?_ _
                go_wp2_with fail
                go_meet
                have hgs2 : wg.drew.heap.size = wr.heap.size + 1 := gs.out
                exact ⟨_, _, _, _, _, _, rfl, rfl, rz.out, hr8.out.keep (fun c h => by show c < _; rw [hsz9.out]; exact h.2) (fun c h => hkp.out c (by have := h.1; omega)), hbz.out⟩
            case rest =>
              obtain ⟨gx, v0, v1, v2, v3, v4, rfl, rfl, hgx, hrx, hE⟩ := hcut
              obtain ⟨zk, zn, zt, za, zl, zc, zf, zm, zg, e5⟩ := hrx.five
              simp only [List.cons.injEq, and_true] at e5
              obtain ⟨rfl, rfl, rfl, rfl, rfl⟩ := e5
              replace hgx := hid hgx
              replace hrx := hid hrx
              replace hE := hid hE
              have hbb := hid (hE.out.block b (Nat.lt_of_lt_of_le hSb.out hDr.out.size))
              replace c0 := (World.cell?_of_block (w := wr) (a := ⟨b, off + j * 6, none⟩) hbb.out).trans c0
              replace c1 := (World.cell?_of_block (w := wr) (a := ⟨b, off + j * 6 + 1, none⟩) hbb.out).trans c1
              replace c2 := (World.cell?_of_block (w := wr) (a := ⟨b, off + j * 6 + 2, none⟩) hbb.out).trans c2
              replace c3 := (World.cell?_of_block (w := wr) (a := ⟨b, off + j * 6 + 3, none⟩) hbb.out).trans c3
              replace c4 := (World.cell?_of_block (w := wr) (a := ⟨b, off + j * 6 + 4, none⟩) hbb.out).trans c4
              replace c5 := (World.cell?_of_block (w := wr) (a := ⟨b, off + j * 6 + 5, none⟩) hbb.out).trans c5
              clear hfi hS9 hbb
              go_wp2_with fail
              refine (hsx.out wc hE.out).mono ?_
              rintro e w10 ⟨rfl, h10⟩
              have E10 := hid (hE.out.step h10)
              have hx10 := hid ((h10.block _ (lt_of_block hgx.out)).trans hgx.out)
              have hr10 := hid (hrx.out.later h10)
              have hb10 := hid (h10.block b (Nat.lt_of_lt_of_le hSb.out (Nat.le_trans hDr.out.size hE.out.size)))
              replace c0 := (World.cell?_of_block (w := wc) (a := ⟨b, off + j * 6, none⟩) hb10.out).trans c0
              replace c1 := (World.cell?_of_block (w := wc) (a := ⟨b, off + j * 6 + 1, none⟩) hb10.out).trans c1
              replace c2 := (World.cell?_of_block (w := wc) (a := ⟨b, off + j * 6 + 2, none⟩) hb10.out).trans c2
              replace c3 := (World.cell?_of_block (w := wc) (a := ⟨b, off + j * 6 + 3, none⟩) hb10.out).trans c3
              replace c4 := (World.cell?_of_block (w := wc) (a := ⟨b, off + j * 6 + 4, none⟩) hb10.out).trans c4
              replace c5 := (World.cell?_of_block (w := wc) (a := ⟨b, off + j * 6 + 5, none⟩) hb10.out).trans c5
              have hS9 : Hid (∀ y : World, (∀ c, c < w10.heap.size → y.heap[c]? = w10.heap[c]?) → DosS gx b (off + j * 6) (.int .i64 zk) (.int .i64 zn) (.string zt) (.slice za zl zc) (.slice zf zm zg) (.int .i64 yk) (.int .i64 yn) (.string yt) (.slice ya yl yc) (.slice yf ym yg) y) := fun y h => by
                have hB := (h _ (lt_of_block hx10.out)).trans hx10.out
                have hg := h b (Nat.lt_of_lt_of_le hSb.out (Nat.le_trans hDr.out.size E10.out.size))
                exact ⟨box_at (j := 0) hB rfl, box_at (j := 1) hB rfl, box_at (j := 2) hB rfl, box_at (j := 3) hB rfl, box_at (j := 4) hB rfl, (World.cell?_of_block (w := w10) (a := ⟨b, off + j * 6 + 1, none⟩) hg).trans c1, (World.cell?_of_block (w := w10) (a := ⟨b, off + j * 6 + 2, none⟩) hg).trans c2, (World.cell?_of_block (w := w10) (a := ⟨b, off + j * 6 + 3, none⟩) hg).trans c3, (World.cell?_of_block (w := w10) (a := ⟨b, off + j * 6 + 4, none⟩) hg).trans c4, (World.cell?_of_block (w := w10) (a := ⟨b, off + j * 6 + 5, none⟩) hg).trans c5⟩
              clear hsx h10 hb10
              replace c0 := hid c0
              clear c1 c2 c3 c4 c5
              go_upto_region 21 with fail
              refine wp_region_T (DosS gx b (off + j * 6) (.int .i64 zk) (.int .i64 zn) (.string zt) (.slice za zl zc) (.slice zf zm zg) (.int .i64 yk) (.int .i64 yn) (.string yt) (.slice ya yl yc) (.slice yf ym yg)) 16 (by kernel_rfl) ?_
              have hT0 := hS9.out w10.drew (fun _ _ => rfl)
              ((refine wpAnyT_take (i := 0) (v := ?_) rfl (by kernel_rfl) (by kernel_rfl) (by kernel_rfl) (by kernel_rfl) (by exact fun _ _ _ h => h) (Or.inl ⟨by kernel_rfl, ?_⟩) hT0 ?_; rotate_left 1; focus (intro w hSw; unfold DosS at hSw; (try dsimp only at hSw); go_simp; try with_reducible rfl); (try simp only [List.getElem_toArray, List.getElem_cons_zero, List.getElem_cons_succ, Act.put, List.setIfInBounds_toArray, List.set_cons_zero, List.set_cons_succ])); (refine wpAnyT_take (i := 1) (v := ?_) rfl (by kernel_rfl) (by kernel_rfl) (by kernel_rfl) (by kernel_rfl) (by exact fun _ _ _ h => h) (Or.inl ⟨by kernel_rfl, ?_⟩) hT0 ?_; rotate_left 1; focus (intro w hSw; unfold DosS at hSw; (try dsimp only at hSw); go_simp; try with_reducible rfl); (try simp only [List.getElem_toArray, List.getElem_cons_zero, List.getElem_cons_succ, Act.put, List.setIfInBounds_toArray, List.set_cons_zero, List.set_cons_succ])); (refine wpAnyT_take (i := 2) (v := ?_) rfl (by kernel_rfl) (by kernel_rfl) (by kernel_rfl) (by kernel_rfl) (by exact fun _ _ _ h => h) (Or.inl ⟨by kernel_rfl, ?_⟩) hT0 ?_; rotate_left 1; focus (intro w hSw; unfold DosS at hSw; (try dsimp only at hSw); go_simp; try with_reducible rfl); (try simp only [List.getElem_toArray, List.getElem_cons_zero, List.getElem_cons_succ, Act.put, List.setIfInBounds_toArray, List.set_cons_zero, List.set_cons_succ])); (refine wpAnyT_take (i := 3) (v := ?_) rfl (by kernel_rfl) (by kernel_rfl) (by kernel_rfl) (by kernel_rfl) (by exact fun _ _ _ h => h) (Or.inl ⟨by kernel_rfl, ?_⟩) hT0 ?_; rotate_left 1; focus (intro w hSw; unfold DosS at hSw; (try dsimp only at hSw); go_simp; try with_reducible rfl); (try simp only [List.getElem_toArray, List.getElem_cons_zero, List.getElem_cons_succ, Act.put, List.setIfInBounds_toArray, List.set_cons_zero, List.set_cons_succ])); (refine wpAnyT_take (i := 4) (v := ?_) rfl (by kernel_rfl) (by kernel_rfl) (by kernel_rfl) (by kernel_rfl) (by exact fun _ _ _ h => h) (Or.inl ⟨by kernel_rfl, ?_⟩) hT0 ?_; rotate_left 1; focus (intro w hSw; unfold DosS at hSw; (try dsimp only at hSw); go_simp; try with_reducible rfl); (try simp only [List.getElem_toArray, List.getElem_cons_zero, List.getElem_cons_succ, Act.put, List.setIfInBounds_toArray, List.set_cons_zero, List.set_cons_succ])); (refine wpAnyT_take (i := 5) (v := ?_) rfl (by kernel_rfl) (by kernel_rfl) (by kernel_rfl) (by kernel_rfl) (by exact fun _ _ _ h => h) (Or.inl ⟨by kernel_rfl, ?_⟩) hT0 ?_; rotate_left 1; focus (intro w hSw; unfold DosS at hSw; (try dsimp only at hSw); go_simp; try with_reducible rfl); (try simp only [List.getElem_toArray, List.getElem_cons_zero, List.getElem_cons_succ, Act.put, List.setIfInBounds_toArray, List.set_cons_zero, List.set_cons_succ])); (refine wpAnyT_take (i := 6) (v := ?_) rfl (by kernel_rfl) (by kernel_rfl) (by kernel_rfl) (by kernel_rfl) (by exact fun _ _ _ h => h) (Or.inl ⟨by kernel_rfl, ?_⟩) hT0 ?_; rotate_left 1; focus (intro w hSw; unfold DosS at hSw; (try dsimp only at hSw); go_simp; try with_reducible rfl); (try simp only [List.getElem_toArray, List.getElem_cons_zero, List.getElem_cons_succ, Act.put, List.setIfInBounds_toArray, List.set_cons_zero, List.set_cons_succ])); (refine wpAnyT_take (i := 7) (v := ?_) rfl (by kernel_rfl) (by kernel_rfl) (by kernel_rfl) (by kernel_rfl) (by exact fun _ _ _ h => h) (Or.inl ⟨by kernel_rfl, ?_⟩) hT0 ?_; rotate_left 1; focus (intro w hSw; unfold DosS at hSw; (try dsimp only at hSw); go_simp; try with_reducible rfl); (try simp only [List.getElem_toArray, List.getElem_cons_zero, List.getElem_cons_succ, Act.put, List.setIfInBounds_toArray, List.set_cons_zero, List.set_cons_succ])); (refine wpAnyT_take (i := 8) (v := ?_) rfl (by kernel_rfl) (by kernel_rfl) (by kernel_rfl) (by kernel_rfl) (by exact fun _ _ _ h => h) (Or.inl ⟨by kernel_rfl, ?_⟩) hT0 ?_; rotate_left 1; focus (intro w hSw; unfold DosS at hSw; (try dsimp only at hSw); go_simp; try with_reducible rfl); (try simp only [List.getElem_toArray, List.getElem_cons_zero, List.getElem_cons_succ, Act.put, List.setIfInBounds_toArray, List.set_cons_zero, List.set_cons_succ])))
              refine wpAnyT_one (i := 9) (by kernel_rfl) rfl (fun K hK => ?_)
              go_simp
              refine (hsm.out w10.drew (E10.out.step (Below.refl w10.heap.size w10).drew) _ (hr10.out.later (Below.refl w10.heap.size w10).drew)).mono ?_
              rintro e w11 ⟨rfl, h11⟩
              have F11 := hid ((Below.refl w10.heap.size w10).drew.step h11)
              have hT1 := hS9.out _ F11.out.block
              clear hT0 h11
              (refine hK.out _ _ (fun _ => hT1) (fun _ => ?_); clear hK K; (try simp only [Act.put, List.setIfInBounds_toArray, List.set_cons_zero, List.set_cons_succ]))
              ((refine wpAnyT_take (i := 10) (v := ?_) rfl (by kernel_rfl) (by kernel_rfl) (by kernel_rfl) (by kernel_rfl) (by exact fun _ _ _ h => h) (Or.inl ⟨by kernel_rfl, ?_⟩) hT1 ?_; rotate_left 1; focus (intro w hSw; unfold DosS at hSw; (try dsimp only at hSw); go_simp; try with_reducible rfl); (try simp only [List.getElem_toArray, List.getElem_cons_zero, List.getElem_cons_succ, Act.put, List.setIfInBounds_toArray, List.set_cons_zero, List.set_cons_succ])); (refine wpAnyT_take (i := 11) (v := ?_) rfl (by kernel_rfl) (by kernel_rfl) (by kernel_rfl) (by kernel_rfl) (by exact fun _ _ _ h => h) (Or.inl ⟨by kernel_rfl, ?_⟩) hT1 ?_; rotate_left 1; focus (intro w hSw; unfold DosS at hSw; (try dsimp only at hSw); go_simp; try with_reducible rfl); (try simp only [List.getElem_toArray, List.getElem_cons_zero, List.getElem_cons_succ, Act.put, List.setIfInBounds_toArray, List.set_cons_zero, List.set_cons_succ])); (refine wpAnyT_take (i := 12) (v := ?_) rfl (by kernel_rfl) (by kernel_rfl) (by kernel_rfl) (by kernel_rfl) (by exact fun _ _ _ h => h) (Or.inl ⟨by kernel_rfl, ?_⟩) hT1 ?_; rotate_left 1; focus (intro w hSw; unfold DosS at hSw; (try dsimp only at hSw); go_simp; try with_reducible rfl); (try simp only [List.getElem_toArray, List.getElem_cons_zero, List.getElem_cons_succ, Act.put, List.setIfInBounds_toArray, List.set_cons_zero, List.set_cons_succ])); (refine wpAnyT_take (i := 13) (v := ?_) rfl (by kernel_rfl) (by kernel_rfl) (by kernel_rfl) (by kernel_rfl) (by exact fun _ _ _ h => h) (Or.inl ⟨by kernel_rfl, ?_⟩) hT1 ?_; rotate_left 1; focus (intro w hSw; unfold DosS at hSw; (try dsimp only at hSw); go_simp; try with_reducible rfl); (try simp only [List.getElem_toArray, List.getElem_cons_zero, List.getElem_cons_succ, Act.put, List.setIfInBounds_toArray, List.set_cons_zero, List.set_cons_succ])); (refine wpAnyT_take (i := 14) (v := ?_) rfl (by kernel_rfl) (by kernel_rfl) (by kernel_rfl) (by kernel_rfl) (by exact fun _ _ _ h => h) (Or.inl ⟨by kernel_rfl, ?_⟩) hT1 ?_; rotate_left 1; focus (intro w hSw; unfold DosS at hSw; (try dsimp only at hSw); go_simp; try with_reducible rfl); (try simp only [List.getElem_toArray, List.getElem_cons_zero, List.getElem_cons_succ, Act.put, List.setIfInBounds_toArray, List.set_cons_zero, List.set_cons_succ])); (refine wpAnyT_take (i := 15) (v := ?_) rfl (by kernel_rfl) (by kernel_rfl) (by kernel_rfl) (by kernel_rfl) (by exact fun _ _ _ h => h) (Or.inl ⟨by kernel_rfl, ?_⟩) hT1 ?_; rotate_left 1; focus (intro w hSw; unfold DosS at hSw; (try dsimp only at hSw); go_simp; try with_reducible rfl); (try simp only [List.getElem_toArray, List.getElem_cons_zero, List.getElem_cons_succ, Act.put, List.setIfInBounds_toArray, List.set_cons_zero, List.set_cons_succ])))
              refine wpAnyT_done (by kernel_rfl) ?_ _
              replace c0 : w11.cell? ⟨b, off + j * 6, none⟩ = some (.string a) := (World.cell?_of_block (w := w10) (a := ⟨b, off + j * 6, none⟩) (F11.out.block b (Nat.lt_of_lt_of_le hSb.out (Nat.le_trans hDr.out.size E10.out.size)))).trans c0.out
              have hB11 := hid ((hbr.out.step E10.out).step F11.out)
              replace hle : Hid (wj + 1 + a.size + sx ≤ 2048) := by show _ ≤ _; have := hle.out; omega
              clear hS9 hT1 hx10 hr10 E10 F11 hE hgx hrx hsm hDr rdr hbr hwj
              simp only [List.getElem_toArray, List.getElem_cons_zero, List.getElem_cons_succ, Act.put, List.setIfInBounds_toArray, List.set_cons_zero, List.set_cons_succ]
              go_wp2_with fail
              go_roundg (N - (j + 1))
              case measure => omega
              case rel => exact ⟨j + 1, wj + 1 + a.size + sx, by omega, congrArg (Value.int .i64) (sum3_in hle.out), by go_num, hwj2, hB11⟩
          · obtain rfl : N = j := by omega
            have hzt : zs.take N = zs := List.take_of_length_le (by rw [hzl.out]; exact Nat.le_refl _)
            obtain rfl : 2 + W = wj := by rw [hwj.out, hzt, hWz.out]
            have rxr := hid ((hbr.out.block _ (lt_of_block rx7.out)).trans rx7.out)
            have hsm := hid (fun (w' : World) (h : Below wr.heap.size wr w') => same2_calls (docL (fs.map Prod.fst) (fs.map Prod.snd)) (docL (fs.map Prod.fst) (fs.map Prod.snd)) true (by simp) w' _ _ (xx7.out.later (hbr.out.step h)) (xd7.out.later (hbr.out.step h)))
            have hS9 : Hid (∀ y : World, (∀ c, c < wr.heap.size → y.heap[c]? = wr.heap[c]?) → DolS w5.heap.size w3.heap.size (.int .i64 xk) (.int .i64 xn) (.string xt) (.slice xa xl xc) (.slice xf xm xg) (.int .i64 dk) (.int .i64 dn) (.string dt) (.slice da dl dc) (.slice df N dg) y) := fun y h => by
              have hB := (h _ (lt_of_block rxr.out)).trans rxr.out
              have hD := (h _ (lt_of_block rdr.out)).trans rdr.out
              exact ⟨box_at (j := 0) hB rfl, box_at (j := 1) hB rfl, box_at (j := 2) hB rfl, box_at (j := 3) hB rfl, box_at (j := 4) hB rfl, box_at (j := 0) hD rfl, box_at (j := 1) hD rfl, box_at (j := 2) hD rfl, box_at (j := 3) hD rfl, box_at (j := 4) hD rfl⟩
            clear hzt hwj hj rd7 rx7 xd7 xx7 rxr rdr
            obtain ⟨k0, k1, k2, k3, k4, l0, l1, l2, l3, l4⟩ := hS9.out wr (fun _ _ => rfl)
            go_wp2_with fail
            refine (hsm.out wr (Below.refl wr.heap.size wr)).mono ?_
            rintro e w11 ⟨rfl, h11⟩
            clear k0 k1 k2 k3 k4 l0 l1 l2 l3 l4
            obtain ⟨k0, k1, k2, k3, k4, l0, l1, l2, l3, l4⟩ := hS9.out w11 h11.block
            clear k0 k1 k2 k3 k4 l0 l1 l2 l3
            replace h11 := hid (hDr.out.step h11)
            clear hS9 hsm hDr
            go_wp2_with fail
            go_ret
            exact ⟨rfl, h11.out⟩
  · have hEi : (E != 0) = true := by simp [hE]
    clear hok
    have a0 := box_at (j := 0) r4.out rfl
    have a1 := box_at (j := 1) r4.out rfl
    have a2 := box_at (j := 2) r4.out rfl
    have a3 := box_at (j := 3) r4.out rfl
    have a4 := box_at (j := 4) r4.out rfl
    replace hE := hid hE
    go_wp2_with fail
    refine (hz.out w4 _ hE.out x4.out).mono ?_
    rintro e w5 ⟨rfl, h5⟩
    go_wp2_with fail
    go_ret
    exact ⟨rfl, D4.out.step h5⟩
end Go.Proofs.YtckdgmjekfpcjaaDoor
