/-
  Walk: value.Make. No condition.
  Walk: value.Make, whole. No condition.
  Walk: value.Make's own text. No condition.
-/
import Derived.Test.YtckdgmjekfpcjaaDoorMgSrtA
import Derived.Test.YtckdgmjekfpcjaaDoorMgPthP
import Derived.Test.YtckdgmjekfpcjaaDoorMgVal8
import Derived.Test.YtckdgmjekfpcjaaDoorMgVal12
import Derived.Test.YtckdgmjekfpcjaaDoorMgHel
import Derived.Test.YtckdgmjekfpcjaaDoorMgApp
namespace Go.Proofs.YtckdgmjekfpcjaaDoor
open Go.RowKit Go.Proofs
open Go.Sort (PermIn SortedIn)

/-- Are two neighbours the same? -/
def nbrB : List ByteArray → Bool
  | a :: b :: r => decide (a = b) || nbrB (b :: r)
  | _ => false
theorem nbr_true : ∀ {l : List ByteArray} (i : Nat) {a : ByteArray}, l[i]? = some a → l[i + 1]? = some a → nbrB l = true
  | x :: y :: r, 0, a, h1, h2 => by
    obtain rfl : x = a := by simpa using h1
    obtain rfl : y = x := by simpa using h2
    simp [nbrB]
  | x :: y :: r, i + 1, a, h1, h2 => by
    rw [nbrB, nbr_true (l := y :: r) i (by simpa using h1) (by simpa using h2), Bool.or_true]
  | [], i, a, h1, _ => by simp at h1
  | [x], i, a, _, h2 => by simp at h2
theorem nbr_false : ∀ {l : List ByteArray}, (∀ (i : Nat) a b, l[i]? = some a → l[i + 1]? = some b → a ≠ b) → nbrB l = false
  | [], _ => rfl
  | [_], _ => rfl
  | x :: y :: r, h => by
    rw [nbrB, decide_eq_false (h 0 x y rfl rfl), nbr_false (l := y :: r) (fun i a b h1 h2 => h (i + 1) a b (by simpa using h1) (by simpa using h2))]
    rfl
/-- What Make tells of its sorted fields. -/
def madeP (fs : List (ByteArray × PVal)) : PVal × Int := if nbrB (fs.map Prod.fst) = true then (zeroP, 13) else if (docL (fs.map Prod.fst) (fs.map Prod.snd)).good ≠ 0 then (zeroP, (docL (fs.map Prod.fst) (fs.map Prod.snd)).good) else (docL (fs.map Prod.fst) (fs.map Prod.snd), 0)
theorem all2_imp {α β : Type} {R R' : α → β → Prop} (h : ∀ x y, R x y → R' x y) : ∀ {l : List α} {m : List β}, All2 R l m → All2 R' l m
  | [], [], _ => trivial
  | _ :: _, _ :: _, k => ⟨h _ _ k.1, all2_imp h k.2⟩
  | [], _ :: _, k => k.elim
  | _ :: _, [], k => k.elim
/-- The neighbours' names. -/
def NmS (g p : Nat) (a : Value) (q : Nat) (b : Value) (x : World) : Prop := x.cell? ⟨g, p, none⟩ = some a ∧ x.cell? ⟨g, q, none⟩ = some b
end Go.Proofs.YtckdgmjekfpcjaaDoor

namespace Go.Proofs.YtckdgmjekfpcjaaDoor
open Go.RowKit Go.Proofs
open Go.Sort (PermIn SortedIn)

theorem ne_bytes {a b : ByteArray} (h : a ≠ b) : (a.toList == b.toList) = false := by
  cases hb : (a.toList == b.toList) with
  | false => rfl
  | true =>
    rw [ByteArray.toList_eq, ByteArray.toList_eq] at hb
    exact absurd (Go.WideShapes.bytes_inj (by simpa using hb)) h
theorem rdE_zero {w : World} {S : Nat → Prop} : Rd w S zeroP [.int .i64 0, .int .i64 0, .string ByteArray.empty, .slice none 0 0, .slice none 0 0] := rd_flat _ _ ⟨by decide, by decide⟩ ⟨by decide, by decide⟩ (by decide)
theorem rdE_doc {w : World} {S : Nat → Prop} {fn : List ByteArray} {fv : List PVal} {vf : Value} (hF : RdF w S fn fv vf) : Rd w S (docL fn fv) [.int .i64 6, .int .i64 0, .string ByteArray.empty, .slice none 0 0, vf] := by
  obtain ⟨h0, h1, fa, cap, cs, rfl, h2, h3, h4, h5⟩ := hF
  exact .mk (fun _ => []) cs ⟨by decide, by decide⟩ ⟨by decide, by decide⟩ (by decide) h1 h0 (Nat.le_refl 0) (by simp) h2 h3 (.inl rfl) (fun i x hx => by simp at hx) h4 h5
def MadeE (fs0 : List (ByteArray × PVal)) (w : World) (e : Ending) (w' : World) : Prop := ∃ (fs : List (ByteArray × PVal)) (cs : List Value), fs0.Perm fs ∧ (∀ (i j : Nat) a b, i < j → (fs.map Prod.fst)[i]? = some a → (fs.map Prod.fst)[j]? = some b → ¬ scmp b a < 0) ∧ e = .returned (.tuple #[.agg cs.toArray, .int .i64 (madeP fs).2]) ∧ Below w.heap.size w w' ∧ Rd w' (Now w') (madeP fs).1 cs

/-- The sorted copy. -/
theorem copy_sorted {w : World} {fn : List ByteArray} {fv : List PVal} {la : Option Addr} {n c : Nat} (hF : RdF w (Now w) fn fv (.slice la n c)) (hsz : fv.length ≤ 1000000000) {w1 : World} (h1 : Below w.heap.size w w1) :
    Calls Tryd.prog 15 #[.slice la n c] w1 fun e w2 => ∃ v, e = .returned v ∧ Below w1.heap.size w1 w2 ∧
      Calls Tryd.prog 16 #[v, .func (.func 17) #[] #[]] w2 fun e w3 => e = .returned (.tuple #[]) ∧ Below w1.heap.size w2 w3 ∧
        ∃ (fs : List (ByteArray × PVal)) (a : Option Addr) (cap : Nat), v = .slice a fs.length cap ∧ (fn.zip fv).Perm fs ∧ (∀ (i j : Nat) a b, i < j → (fs.map Prod.fst)[i]? = some a → (fs.map Prod.fst)[j]? = some b → ¬ scmp b a < 0) ∧ RdF w3 (Now w3) (fs.map Prod.fst) (fs.map Prod.snd) (.slice a fs.length cap) := by
  have hfl := hF.1
  obtain ⟨es, hel, rfl, hlie, hln, hre⟩ := es_of hF
  have hall : All2 (ReadE w (Now w)) es (fn.zip fv) := all2_of (by rw [List.length_zip, hel]; omega) hre
  have hcl := cloneF_calls (c := c) (hlie.later h1) hln (by rw [List.length_map]; omega)
  rw [List.length_map, hel] at hcl
  refine hcl.mono ?_
  rintro e w2 ⟨v, rfl, h2, hown⟩
  refine ⟨v, rfl, h2, ?_⟩
  rw [← hel] at hown
  refine (sortOwn_calls (by omega) hown).mono ?_
  rintro e w3 ⟨he, h3, d, hM, hv⟩
  obtain ⟨fs, hfp, hfa⟩ := perm_rel (all_perm hM.1) _ hall
  have hlen := all2_len hfa
  have hfl2 : fs.length = fv.length := by rw [← hfp.length_eq, List.length_zip]; omega
  have hB := h1.step (h2.trans h3)
  have hfa3 : All2 (ReadE w3 (Now w3)) d.toList fs := all2_imp (fun x y h => ⟨h.1, h.2.1, h.2.2.later hB⟩) hfa
  have hsort : ∀ (i j : Nat) a b, i < j → (fs.map Prod.fst)[i]? = some a → (fs.map Prod.fst)[j]? = some b → ¬ scmp b a < 0 := fun i j a b hij ha hb => by
    rw [List.getElem?_map] at ha hb
    obtain ⟨f, hf, rfl⟩ := Option.map_eq_some_iff.1 ha
    obtain ⟨f', hf', rfl⟩ := Option.map_eq_some_iff.1 hb
    have hil := (List.getElem?_eq_some_iff.1 hf).1
    have hjl := (List.getElem?_eq_some_iff.1 hf').1
    have hid : i < d.size := by rw [← hlen] at hil; simpa using hil
    have hjd : j < d.size := by rw [← hlen] at hjl; simpa using hjl
    have e1 := (all2_at hfa i d[i]! f (by simp [hid]) hf).1
    have e2 := (all2_at hfa j d[j]! f' (by simp [hjd]) hf').1
    have h9 := hM.2 i j (Nat.zero_le _) hij (by omega)
    rw [← e1, ← e2]
    exact of_decide_eq_false h9
  refine ⟨he, h3, fs, ?_⟩
  rcases hv with ⟨rfl, rfl⟩ | ⟨g, cap, rfl, hRE, hbg⟩
  · obtain rfl : fs = [] := List.length_eq_zero_iff.1 (by rw [← hlen]; rfl)
    exact ⟨none, 0, rfl, hfp, hsort, ⟨rfl, fun x hx => by simp at hx, none, 0, fun _ => [], rfl, Nat.le_refl _, by simp, .inl rfl, fun i x hx => by simp at hx⟩⟩
  · have hcap := own_size hown
    refine ⟨some ⟨g, 0, none⟩, cap, by rw [hfl2, hel], hfp, hsort, rdF_turn hRE.1 hRE hfa3 (by rw [hfl2, ← hel]; exact hcap.1) hcap.2.1 (by omega)⟩
end Go.Proofs.YtckdgmjekfpcjaaDoor

namespace Go.Proofs.YtckdgmjekfpcjaaDoor
open Go.RowKit Go.Proofs

set_option maxRecDepth 100000 in
set_option maxHeartbeats 8000000 in
theorem make_calls {w : World} {fn : List ByteArray} {fv : List PVal} {la : Option Addr} {n c : Nat} (hF : RdF w (Now w) fn fv (.slice la n c)) (hsz : fv.length ≤ 1000000000) (hT : Tabs w)
    (hG : ∀ fs, (fn.zip fv).Perm fs → (docL (fs.map Prod.fst) (fs.map Prod.snd)).nodes ≤ 1000000000000 ∧ (docL (fs.map Prod.fst) (fs.map Prod.snd)).size ≤ 9000000000000000000) :
    Calls Tryd.prog 6 #[.slice la n c] w (MadeE (fn.zip fv) w) := by
  have hcs := hid (fun (w1 : World) (h1 : Below w.heap.size w w1) => copy_sorted hF hsz h1)
  have hgd := hid (fun (V : PVal) (w' : World) cs (h1 : V.nodes ≤ 1000000000000) (h2 : V.size ≤ 9000000000000000000) (h : Below w.heap.size w w') hr => good_big V w' cs h1 h2 (Tabs.stays w w' hT h) hr)
  have hcp := hid (fun (V : PVal) (w' : World) cs (hr : Rd w' (Now w') V cs) => copy_calls V w' cs hr)
  replace hG := hid hG
  have hlm : Hid (∀ fs, (fn.zip fv).Perm fs → fs.length ≤ 1000000000) := fun fs h => by rw [← h.length_eq, List.length_zip]; omega
  clear hF hT hsz
  obtain ⟨W0, hW0⟩ : ∃ W0, W0 = w.alloc (.cells #[.int .i64 0, .int .i64 0, .string ⟨#[]⟩, .slice none 0 0, .slice none 0 0] 27) := ⟨_, rfl⟩
  have D : Hid (Below w.heap.size w W0) := by show Below _ _ _; rw [hW0]; exact below_new _ _
  have r2 : Hid (W0.heap[w.heap.size]? = some (.cells #[.int .i64 0, .int .i64 0, .string ⟨#[]⟩, .slice none 0 0, .slice none 0 0] 27 (0, 0))) := by show _ = _; rw [hW0]; exact al_at rfl
  have hW0s : Hid (w.heap.size < W0.heap.size) := lt_of_block r2.out
  go_enter Tryd.func6, Tryd.ntmps6
  go_upto_region 1 with fail
  rw [← hW0]
  clear hW0
  go_wp2_with fail
  refine (hcs.out W0 D.out).mono ?_
  rintro e w2 ⟨v, rfl, h2, hso⟩
  replace hso := hid hso
  replace h2 := hid h2
  clear hcs
  go_wp2_with fail
  refine hso.out.mono ?_
  rintro e w3 ⟨rfl, h3, fs, a, cap, rfl, hfp, hsort, hRF⟩
  clear hso
  have N3 := hid (h2.out.trans h3)
  have D3 := hid (D.out.step N3.out)
  have q2 := hid ((N3.out.block _ (lt_of_block r2.out)).trans r2.out)
  clear h2 h3 r2
  have hGf := hid (hG.out fs hfp)
  have hNb := hlm.out fs hfp
  have hfin := hid (show ∀ cs e w', e = Ending.returned (.tuple #[.agg cs.toArray, .int .i64 (madeP fs).2]) → Below w.heap.size w w' → Rd w' (Now w') (madeP fs).1 cs → MadeE (fn.zip fv) w e w' from fun cs e w' h1 h2 h3 => ⟨fs, cs, hfp, fun i j a b g1 g2 g3 => (by first | exact hsort i j a b g1 g2 g3 | exact Int.not_lt.2 (hsort i j a b g1 g2 g3)), h1, h2, h3⟩)
  clear hfp hsort hG hlm
  have hM1 : Hid (nbrB (fs.map Prod.fst) = true → madeP fs = (zeroP, 13)) := fun h => by unfold madeP; rw [if_pos h]
  have hM2 : Hid (nbrB (fs.map Prod.fst) = false → (docL (fs.map Prod.fst) (fs.map Prod.snd)).good ≠ 0 → madeP fs = (zeroP, (docL (fs.map Prod.fst) (fs.map Prod.snd)).good)) := fun h h2 => by unfold madeP; rw [if_neg (by simp [h]), if_pos h2]
  have hM3 : Hid (nbrB (fs.map Prod.fst) = false → (docL (fs.map Prod.fst) (fs.map Prod.snd)).good = 0 → madeP fs = (docL (fs.map Prod.fst) (fs.map Prod.snd), 0)) := fun h h2 => by unfold madeP; rw [if_neg (by simp [h]), if_neg (by simp [h2])]
  obtain ⟨TR, hTR⟩ : ∃ R, R = madeP fs := ⟨_, rfl⟩
  rw [← hTR] at hM1 hM2 hM3 hfin
  clear hTR
  obtain ⟨N, hN⟩ : ∃ N, N = fs.length := ⟨_, rfl⟩
  rw [← hN] at hRF hNb ⊢
  have hnl := hid (show (fs.map Prod.fst).length = N from by rw [List.length_map, hN])
  have hvl := hid (show (fs.map Prod.snd).length = N from by rw [List.length_map, hN])
  clear hN
  generalize fs.map Prod.fst = nms at hM1 hM2 hM3 hRF hGf hnl
  generalize fs.map Prod.snd = vls at hM2 hM3 hRF hGf hvl
  replace hRF := hid hRF
  go_wp2_with fail
  go_loopg [5] N (fun gk s wr => ∃ (i : Nat), s = .int .i64 i ∧ 1 ≤ i ∧ N ≤ gk + i ∧ Hid (∀ (j : Nat) x y, j + 1 < i → nms[j]? = some x → nms[j + 1]? = some y → x ≠ y) ∧ Hid (Below w3.heap.size w3 wr))
  case atStart => exact ⟨1, rfl, Nat.le_refl _, by omega, fun j x y hj => absurd hj (by omega), Below.refl _ _⟩
  case round =>
    obtain ⟨i, rfl, hi1, hgk, hne0, hB⟩ := hrel
    by_cases hlt : i < N
    · have hlti : (i : Int) < (N : Int) := by omega
      obtain ⟨ip, hip⟩ : ∃ q, i = q + 1 := ⟨i - 1, by omega⟩
      have e1 : IntKind.i64.wrap ((i : Int) - 1) = (ip : Int) := by rw [IntWalk.i64_in _ (by omega)]; omega
      have e2 : IntKind.i64.wrap ((i : Int) + 1) = (i : Int) + 1 := by rw [IntWalk.i64_in _ (by omega)]
      have b1 : (ip : Int) < (N : Int) := by omega
      obtain ⟨x, hx⟩ : ∃ x, nms[ip]? = some x := ⟨_, List.getElem?_eq_getElem (by rw [hnl.out]; omega)⟩
      obtain ⟨y, hy⟩ : ∃ y, nms[i]? = some y := ⟨_, List.getElem?_eq_getElem (by rw [hnl.out]; omega)⟩
      obtain ⟨u, hu⟩ : ∃ x, vls[ip]? = some x := ⟨_, List.getElem?_eq_getElem (by rw [hvl.out]; omega)⟩
      obtain ⟨u', hu'⟩ : ∃ x, vls[i]? = some x := ⟨_, List.getElem?_eq_getElem (by rw [hvl.out]; omega)⟩
      obtain ⟨b, off, cs1, rfl, hSb, hc1, _, _⟩ := hRF.out.at_ hx hu
      obtain ⟨b', off', cs2, hbb, _, hc2, _, _⟩ := hRF.out.at_ hy hu'
      injection hbb with hbb
      injection hbb with hb1 hb2
      subst hb1 hb2
      have k1 := hc1 0 _ rfl
      have k2 := hc2 0 _ rfl
      rw [Nat.add_zero] at k1 k2
      have hSS : Hid (∀ z : World, Below w3.heap.size w3 z → NmS b (off + ip * 6) (.string x) (off + i * 6) (.string y) z) := fun z h => ⟨(h.cell (p := ⟨b, _, none⟩) hSb).trans k1, (h.cell (p := ⟨b, _, none⟩) hSb).trans k2⟩
      replace hip := hid hip
      replace hx := hid hx
      replace hy := hid hy
      clear hu hu' hc1 hc2 k1 k2 hSb
      go_upto_region 6 with fail
      refine wp_region_T (NmS b (off + ip * 6) (.string x) (off + i * 6) (.string y)) 12 (by kernel_rfl) ?_
      have hT0 := hSS.out wr.drew (hB.out.trans (Below.refl _ wr).drew)
      ((refine wpAnyT_take (i := 0) (v := ?_) rfl (by kernel_rfl) (by kernel_rfl) (by kernel_rfl) (by kernel_rfl) (by exact fun _ _ _ h => h) (Or.inl ⟨by kernel_rfl, ?_⟩) hT0 ?_; rotate_left 1; focus (intro w hSw; unfold NmS at hSw; (try dsimp only at hSw); go_simp; try with_reducible rfl); (try simp only [List.getElem_toArray, List.getElem_cons_zero, List.getElem_cons_succ, Act.put, List.setIfInBounds_toArray, List.set_cons_zero, List.set_cons_succ])); (refine wpAnyT_take (i := 1) (v := ?_) rfl (by kernel_rfl) (by kernel_rfl) (by kernel_rfl) (by kernel_rfl) (by exact fun _ _ _ h => h) (Or.inl ⟨by kernel_rfl, ?_⟩) hT0 ?_; rotate_left 1; focus (intro w hSw; unfold NmS at hSw; (try dsimp only at hSw); go_simp; try with_reducible rfl); (try simp only [List.getElem_toArray, List.getElem_cons_zero, List.getElem_cons_succ, Act.put, List.setIfInBounds_toArray, List.set_cons_zero, List.set_cons_succ])); (refine wpAnyT_take (i := 2) (v := ?_) rfl (by kernel_rfl) (by kernel_rfl) (by kernel_rfl) (by kernel_rfl) (by exact fun _ _ _ h => h) (Or.inl ⟨by kernel_rfl, ?_⟩) hT0 ?_; rotate_left 1; focus (intro w hSw; unfold NmS at hSw; (try dsimp only at hSw); go_simp; try with_reducible rfl); (try simp only [List.getElem_toArray, List.getElem_cons_zero, List.getElem_cons_succ, Act.put, List.setIfInBounds_toArray, List.set_cons_zero, List.set_cons_succ])); (refine wpAnyT_take (i := 3) (v := ?_) rfl (by kernel_rfl) (by kernel_rfl) (by kernel_rfl) (by kernel_rfl) (by exact fun _ _ _ h => h) (Or.inl ⟨by kernel_rfl, ?_⟩) hT0 ?_; rotate_left 1; focus (intro w hSw; unfold NmS at hSw; (try dsimp only at hSw); go_simp; try with_reducible rfl); (try simp only [List.getElem_toArray, List.getElem_cons_zero, List.getElem_cons_succ, Act.put, List.setIfInBounds_toArray, List.set_cons_zero, List.set_cons_succ])); (refine wpAnyT_take (i := 4) (v := ?_) rfl (by kernel_rfl) (by kernel_rfl) (by kernel_rfl) (by kernel_rfl) (by exact fun _ _ _ h => h) (Or.inl ⟨by kernel_rfl, ?_⟩) hT0 ?_; rotate_left 1; focus (intro w hSw; unfold NmS at hSw; (try dsimp only at hSw); go_simp; try with_reducible rfl); (try simp only [List.getElem_toArray, List.getElem_cons_zero, List.getElem_cons_succ, Act.put, List.setIfInBounds_toArray, List.set_cons_zero, List.set_cons_succ])); (refine wpAnyT_take (i := 5) (v := ?_) rfl (by kernel_rfl) (by kernel_rfl) (by kernel_rfl) (by kernel_rfl) (by exact fun _ _ _ h => h) (Or.inl ⟨by kernel_rfl, ?_⟩) hT0 ?_; rotate_left 1; focus (intro w hSw; unfold NmS at hSw; (try dsimp only at hSw); go_simp; try with_reducible rfl); (try simp only [List.getElem_toArray, List.getElem_cons_zero, List.getElem_cons_succ, Act.put, List.setIfInBounds_toArray, List.set_cons_zero, List.set_cons_succ])); (refine wpAnyT_take (i := 6) (v := ?_) rfl (by kernel_rfl) (by kernel_rfl) (by kernel_rfl) (by kernel_rfl) (by exact fun _ _ _ h => h) (Or.inl ⟨by kernel_rfl, ?_⟩) hT0 ?_; rotate_left 1; focus (intro w hSw; unfold NmS at hSw; (try dsimp only at hSw); go_simp; try with_reducible rfl); (try simp only [List.getElem_toArray, List.getElem_cons_zero, List.getElem_cons_succ, Act.put, List.setIfInBounds_toArray, List.set_cons_zero, List.set_cons_succ])); (refine wpAnyT_take (i := 7) (v := ?_) rfl (by kernel_rfl) (by kernel_rfl) (by kernel_rfl) (by kernel_rfl) (by exact fun _ _ _ h => h) (Or.inl ⟨by kernel_rfl, ?_⟩) hT0 ?_; rotate_left 1; focus (intro w hSw; unfold NmS at hSw; (try dsimp only at hSw); go_simp; try with_reducible rfl); (try simp only [List.getElem_toArray, List.getElem_cons_zero, List.getElem_cons_succ, Act.put, List.setIfInBounds_toArray, List.set_cons_zero, List.set_cons_succ])); (refine wpAnyT_take (i := 8) (v := ?_) rfl (by kernel_rfl) (by kernel_rfl) (by kernel_rfl) (by kernel_rfl) (by exact fun _ _ _ h => h) (Or.inl ⟨by kernel_rfl, ?_⟩) hT0 ?_; rotate_left 1; focus (intro w hSw; unfold NmS at hSw; (try dsimp only at hSw); go_simp; try with_reducible rfl); (try simp only [List.getElem_toArray, List.getElem_cons_zero, List.getElem_cons_succ, Act.put, List.setIfInBounds_toArray, List.set_cons_zero, List.set_cons_succ])); (refine wpAnyT_take (i := 9) (v := ?_) rfl (by kernel_rfl) (by kernel_rfl) (by kernel_rfl) (by kernel_rfl) (by exact fun _ _ _ h => h) (Or.inl ⟨by kernel_rfl, ?_⟩) hT0 ?_; rotate_left 1; focus (intro w hSw; unfold NmS at hSw; (try dsimp only at hSw); go_simp; try with_reducible rfl); (try simp only [List.getElem_toArray, List.getElem_cons_zero, List.getElem_cons_succ, Act.put, List.setIfInBounds_toArray, List.set_cons_zero, List.set_cons_succ])); (refine wpAnyT_take (i := 10) (v := ?_) rfl (by kernel_rfl) (by kernel_rfl) (by kernel_rfl) (by kernel_rfl) (by exact fun _ _ _ h => h) (Or.inl ⟨by kernel_rfl, ?_⟩) hT0 ?_; rotate_left 1; focus (intro w hSw; unfold NmS at hSw; (try dsimp only at hSw); go_simp; try with_reducible rfl); (try simp only [List.getElem_toArray, List.getElem_cons_zero, List.getElem_cons_succ, Act.put, List.setIfInBounds_toArray, List.set_cons_zero, List.set_cons_succ])))
      refine wpAnyT_one (i := 11) (by kernel_rfl) rfl (fun K hK => ?_)
      go_simp
      (refine hK.out _ _ (fun _ => hT0) (fun _ => ?_); clear hK K; (try simp only [Act.put, List.setIfInBounds_toArray, List.set_cons_zero, List.set_cons_succ]))
      refine wpAnyT_done (by kernel_rfl) ?_ _
      clear hT0 hSS
      have hB2 := hid (hB.out.trans (Below.refl w3.heap.size wr).drew)
      have p2 := hid ((hB2.out.block _ (lt_of_block q2.out)).trans q2.out)
      have DD := hid (D3.out.step hB2.out)
      generalize wr.drew = wy at *
      by_cases hxy : x = y
      · have hnb := hid (nbr_true ip hx.out (by rw [← hip.out, hy.out, hxy]))
        have hne : (x.toList == y.toList) = true := by rw [hxy]; simp
        obtain rfl := hM1.out hnb.out
        simp only [hne]
        clear hM1 hM2 hM3 hnb hxy hne hx hy hne0 hgd hcp
        have c0 := box_at (j := 0) p2.out rfl
        have c1 := box_at (j := 1) p2.out rfl
        have c2 := box_at (j := 2) p2.out rfl
        have c3 := box_at (j := 3) p2.out rfl
        have c4 := box_at (j := 4) p2.out rfl
        have f0 := box_free p2.out
        go_wp2_with fail
        clear c0 c1 c2 c3 c4
        clear f0
        have hbz := hid (set5_below DD.out (Nat.le_refl _) (.int .i64 0) (.int .i64 0) (.string ⟨#[]⟩) (.slice none 0 0) (.slice none 0 0))
        have rz := hid (set5_box (u0 := .int .i64 0) (u1 := .int .i64 0) (u2 := .string ⟨#[]⟩) (u3 := .slice none 0 0) (u4 := .slice none 0 0) p2.out)
        have hkp := hid (fun bq (hb : bq ≠ w.heap.size) => set5_other wy (w.heap.size) (.int .i64 0) (.int .i64 0) (.string ⟨#[]⟩) (.slice none 0 0) (.slice none 0 0) (b := bq) hb)
        have hsz9 := hid (set5_size wy (w.heap.size) (.int .i64 0) (.int .i64 0) (.string ⟨#[]⟩) (.slice none 0 0) (.slice none 0 0))
        unfold set5 at hbz rz hkp hsz9
        generalize ((((wy.setCell ⟨w.heap.size, 0, none⟩ (.int .i64 0)).setCell ⟨w.heap.size, 1, none⟩ (.int .i64 0)).setCell ⟨w.heap.size, 2, none⟩ (.string ⟨#[]⟩)).setCell ⟨w.heap.size, 3, none⟩ (.slice none 0 0)).setCell ⟨w.heap.size, 4, none⟩ (.slice none 0 0) = wz9 at *
        have z0 := box_at (j := 0) rz.out rfl
        have z1 := box_at (j := 1) rz.out rfl
        have z2 := box_at (j := 2) rz.out rfl
        have z3 := box_at (j := 3) rz.out rfl
        have z4 := box_at (j := 4) rz.out rfl
        refine ⟨rfl, _, by simp [results, Tryd.results6, go_sem, z0, z1, z2, z3, z4] <;> exact ⟨rfl, rfl⟩, hfin.out [.int .i64 0, .int .i64 0, .string ⟨#[]⟩, .slice none 0 0, .slice none 0 0] _ _ rfl hbz.out rdE_zero⟩
      · have hne : (x.toList == y.toList) = false := ne_bytes hxy
        simp only [hne]
        have hne2 : Hid (∀ (j : Nat) a b, j + 1 < i + 1 → nms[j]? = some a → nms[j + 1]? = some b → a ≠ b) := fun j a b hj ha hb => by
          by_cases hji : j + 1 < i
          · exact hne0.out j a b hji ha hb
          · obtain rfl : j = ip := by have := hip.out; omega
            rw [hx.out] at ha
            rw [← hip.out, hy.out] at hb
            injection ha with ha
            injection hb with hb
            rw [← ha, ← hb]; exact hxy
        clear hxy hx hy
        go_wp2_with fail
        go_roundg (N - (i + 1))
        case measure => omega
        case rel => exact ⟨i + 1, by go_num, by omega, by omega, hne2, hB2⟩
    · have hlti : ¬ (i : Int) < (N : Int) := by omega
      have hnb := hid (nbr_false (l := nms) (fun j a b ha hb => hne0.out j a b (by have := (List.getElem?_eq_some_iff.1 hb).1; rw [hnl.out] at this; omega) ha hb))
      have p2 := hid ((hB.out.block _ (lt_of_block q2.out)).trans q2.out)
      have D4 := hid (D3.out.step hB.out)
      have hRr := hid (hRF.out.later hB.out)
      clear hne0 hRF q2
      go_upto_region 9 with fail
      obtain ⟨wb, hwb⟩ : ∃ x, x = wr.alloc (.cells #[.int .i64 6, .int .i64 0, .string ⟨#[]⟩, .slice none 0 0, .slice a N cap] 27) := ⟨_, rfl⟩
      have Nb : Hid (Below wr.heap.size wr wb) := by show Below _ _ _; rw [hwb]; exact below_new _ _
      have rb : Hid (wb.heap[wr.heap.size]? = some (.cells #[.int .i64 6, .int .i64 0, .string ⟨#[]⟩, .slice none 0 0, .slice a N cap] 27 (0, 0))) := by show _ = _; rw [hwb]; exact heap_alloc_new _ _
      rw [← hwb]
      clear hwb
      have D5 := hid (D4.out.step Nb.out)
      have hVd := hid (rdE_doc (hRr.out.later Nb.out))
      have q5 := hid ((Nb.out.block _ (lt_of_block p2.out)).trans p2.out)
      clear hRr p2
      have a0 := box_at (j := 0) rb.out rfl
      have a1 := box_at (j := 1) rb.out rfl
      have a2 := box_at (j := 2) rb.out rfl
      have a3 := box_at (j := 3) rb.out rfl
      have a4 := box_at (j := 4) rb.out rfl
      go_wp2_with fail
      refine (hgd.out (docL nms vls) wb _ hGf.out.1 hGf.out.2 D5.out hVd.out).mono ?_
      rintro e w6 ⟨rfl, h6⟩
      clear a0 a1 a2 a3 a4
      have D6 := hid (D5.out.step h6)
      have q6 := hid ((h6.block _ (lt_of_block q5.out)).trans q5.out)
      have rb6 := hid ((h6.block _ (lt_of_block rb.out)).trans rb.out)
      have hV6 := hid (hVd.out.later h6)
      clear h6 q5 rb hVd hgd hGf
      have hG0 := hid (hM3.out hnb.out)
      have hG1 := hid (hM2.out hnb.out)
      obtain ⟨GV, hGV⟩ : ∃ x, x = (docL nms vls).good := ⟨_, rfl⟩
      rw [← hGV] at hG0 hG1 ⊢
      clear hGV hM1 hM2 hM3
      by_cases hg : GV = 0
      · subst hg
        obtain rfl := hG0.out (by simp)
        clear hG0 hG1
        have a0 := box_at (j := 0) rb6.out rfl
        have a1 := box_at (j := 1) rb6.out rfl
        have a2 := box_at (j := 2) rb6.out rfl
        have a3 := box_at (j := 3) rb6.out rfl
        have a4 := box_at (j := 4) rb6.out rfl
        go_wp2_with fail
        refine (hcp.out (docL nms vls) w6 _ hV6.out).mono ?_
        rintro e w7 ⟨cs7, rfl, hr7, h7, _⟩
        clear a0 a1 a2 a3 a4
        have DD := hid (D6.out.step h7)
        have p7 := hid ((h7.block _ (lt_of_block q6.out)).trans q6.out)
        have hz6 := hid D6.out.size
        have hw6 := hid (lt_of_block q6.out)
        obtain ⟨zk, zn, zt, za, zl, zc, zf, zm, zg, rfl⟩ : ∃ k n s la ln lc fa fl fc, cs7 = [.int .i64 k, .int .i64 n, .string s, .slice la ln lc, .slice fa fl fc] := by
          cases hr7
          exact ⟨_, _, _, _, _, _, _, _, _, rfl⟩
        replace hr7 := hid hr7
        clear h7
        have c0 := box_at (j := 0) p7.out rfl
        have c1 := box_at (j := 1) p7.out rfl
        have c2 := box_at (j := 2) p7.out rfl
        have c3 := box_at (j := 3) p7.out rfl
        have c4 := box_at (j := 4) p7.out rfl
        have f0 := box_free p7.out
        go_wp2_with fail
        clear c0 c1 c2 c3 c4
        clear f0
        have hbz := hid (set5_below DD.out (Nat.le_refl _) (.int .i64 zk) (.int .i64 zn) (.string zt) (.slice za zl zc) (.slice zf zm zg))
        have rz := hid (set5_box (u0 := .int .i64 zk) (u1 := .int .i64 zn) (u2 := .string zt) (u3 := .slice za zl zc) (u4 := .slice zf zm zg) p7.out)
        have hkp := hid (fun bq (hb : bq ≠ w.heap.size) => set5_other w7 (w.heap.size) (.int .i64 zk) (.int .i64 zn) (.string zt) (.slice za zl zc) (.slice zf zm zg) (b := bq) hb)
        have hsz9 := hid (set5_size w7 (w.heap.size) (.int .i64 zk) (.int .i64 zn) (.string zt) (.slice za zl zc) (.slice zf zm zg))
        unfold set5 at hbz rz hkp hsz9
        generalize ((((w7.setCell ⟨w.heap.size, 0, none⟩ (.int .i64 zk)).setCell ⟨w.heap.size, 1, none⟩ (.int .i64 zn)).setCell ⟨w.heap.size, 2, none⟩ (.string zt)).setCell ⟨w.heap.size, 3, none⟩ (.slice za zl zc)).setCell ⟨w.heap.size, 4, none⟩ (.slice zf zm zg) = wz9 at *
        have z0 := box_at (j := 0) rz.out rfl
        have z1 := box_at (j := 1) rz.out rfl
        have z2 := box_at (j := 2) rz.out rfl
        have z3 := box_at (j := 3) rz.out rfl
        have z4 := box_at (j := 4) rz.out rfl
        refine ⟨rfl, _, by simp [results, Tryd.results6, go_sem, z0, z1, z2, z3, z4] <;> exact ⟨rfl, rfl⟩, hfin.out [.int .i64 zk, .int .i64 zn, .string zt, .slice za zl zc, .slice zf zm zg] _ _ rfl hbz.out (hr7.out.keep (fun c h => by have h9 := h.2; show c < _; rw [hsz9.out]; exact h9) (fun c h => hkp.out c (by have h9 := h.1; have := hw6.out; omega)))⟩
      · have hgi : (GV != 0) = true := by simp [hg]
        obtain rfl := hG1.out hg
        clear hG0 hG1 hcp hV6 rb6 hg
        have c0 := box_at (j := 0) q6.out rfl
        have c1 := box_at (j := 1) q6.out rfl
        have c2 := box_at (j := 2) q6.out rfl
        have c3 := box_at (j := 3) q6.out rfl
        have c4 := box_at (j := 4) q6.out rfl
        have f0 := box_free q6.out
        go_wp2_with fail
        clear c0 c1 c2 c3 c4
        clear f0
        have hbz := hid (set5_below D6.out (Nat.le_refl _) (.int .i64 0) (.int .i64 0) (.string ⟨#[]⟩) (.slice none 0 0) (.slice none 0 0))
        have rz := hid (set5_box (u0 := .int .i64 0) (u1 := .int .i64 0) (u2 := .string ⟨#[]⟩) (u3 := .slice none 0 0) (u4 := .slice none 0 0) q6.out)
        have hkp := hid (fun bq (hb : bq ≠ w.heap.size) => set5_other w6 (w.heap.size) (.int .i64 0) (.int .i64 0) (.string ⟨#[]⟩) (.slice none 0 0) (.slice none 0 0) (b := bq) hb)
        have hsz9 := hid (set5_size w6 (w.heap.size) (.int .i64 0) (.int .i64 0) (.string ⟨#[]⟩) (.slice none 0 0) (.slice none 0 0))
        unfold set5 at hbz rz hkp hsz9
        generalize ((((w6.setCell ⟨w.heap.size, 0, none⟩ (.int .i64 0)).setCell ⟨w.heap.size, 1, none⟩ (.int .i64 0)).setCell ⟨w.heap.size, 2, none⟩ (.string ⟨#[]⟩)).setCell ⟨w.heap.size, 3, none⟩ (.slice none 0 0)).setCell ⟨w.heap.size, 4, none⟩ (.slice none 0 0) = wz9 at *
        have z0 := box_at (j := 0) rz.out rfl
        have z1 := box_at (j := 1) rz.out rfl
        have z2 := box_at (j := 2) rz.out rfl
        have z3 := box_at (j := 3) rz.out rfl
        have z4 := box_at (j := 4) rz.out rfl
        refine ⟨rfl, _, by simp [results, Tryd.results6, go_sem, z0, z1, z2, z3, z4] <;> exact ⟨rfl, rfl⟩, hfin.out [.int .i64 0, .int .i64 0, .string ⟨#[]⟩, .slice none 0 0, .slice none 0 0] _ _ rfl hbz.out rdE_zero⟩
end Go.Proofs.YtckdgmjekfpcjaaDoor
