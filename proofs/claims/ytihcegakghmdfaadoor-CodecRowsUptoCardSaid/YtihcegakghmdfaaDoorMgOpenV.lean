/-
  A slice of values that came in, read; how much it holds. No condition beyond the row's own reach.
  Walk: value.Find in a Doc of one field.
  Walk: the law CodecNests.
-/
import Derived.Test.YtihcegakghmdfaaDoorMgLaid
import Derived.Test.YtihcegakghmdfaaDoorMgHel
import Derived.Test.YtihcegakghmdfaaDoorMgVal10
import Derived.Test.YtihcegakghmdfaaDoorMgApp
namespace Go.Proofs.YtihcegakghmdfaaDoor
open Go.RowKit Go.Proofs Go.Lib Go.ChangeShapes Go.WideShapes
section
variable {H : Type} {enc : TypeId × Value → H} {w : World} {base : Nat} {spare held : _}
set_option maxRecDepth 100000 in
/-- An argument that is a slice of values. -/
theorem open_vals {r : Reach} {b0 : Nat} {v : Value} {d : DataW H} {p : List MemPlace} (hv : Value.okWide Tryd.prog w r b0 22 v) (h : DataW.Trod enc Tryd.prog w base spare held 22 v d p) (hw : ∀ k ∈ DataW.weights Tryd.prog 22 d, k ≤ reachBytes) :
    ∃ (l : List PVal) (la : Option Addr) (c : Nat), v = .slice la l.length c ∧ RdL w (Now w) l (.slice la l.length c) ∧ massL l ≤ 32 * Rows.uptoBulk d := by
  obtain ⟨a, n, c, rfl⟩ : ∃ a n c, v = .slice a n c := okWide_slice Tryd.underlying22 hv
  obtain ⟨fuel, hf⟩ := h
  obtain ⟨l, hl, hm⟩ := rdL_of (fun m _ cs x => rd_of m cs x) hf hw
  have hl0 := hl
  obtain ⟨la, cap, cs, hv, _⟩ := hl0
  have hv : Value.slice a n c = .slice la l.length cap := by simpa [Value.cells] using hv
  rw [hv]
  refine ⟨l, la, cap, rfl, ?_, hm⟩
  rw [← hv]
  simpa [Value.cells] using hl
end
end Go.Proofs.YtihcegakghmdfaaDoor

namespace Go.Proofs.YtihcegakghmdfaaDoor
open Go.RowKit Go.Proofs

set_option maxRecDepth 100000 in
set_option maxHeartbeats 2000000 in
theorem find_calls (nm : ByteArray) (V : PVal) (w : World) (cs : List Value) (hV : Rd w (Now w) (docV nm V) cs) :
    Calls Tryd.prog 50 #[.agg cs.toArray, .string nm] w fun e w' => ∃ cs', e = .returned (.tuple #[.agg cs'.toArray, .bool true]) ∧ Below w.heap.size w w' ∧ Rd w' (From w.heap.size w') V cs' := by
  have hcp := hid copy_calls
  unfold docV at hV
  obtain ⟨la, lc, fa, fc, rfl, _, _, _, _, _, hfc, hfm, _, hF⟩ := hV.inv
  obtain ⟨b, off, cs1, rfl, hS, hc, hr, hnm⟩ := hF.at_ (i := 0) (nm := nm) (x := V) rfl rfl
  replace hr : Hid (Rd w (Now w) V cs1) := hr
  obtain ⟨k, n, s, l, fn, fv⟩ := V
  obtain ⟨ka, kc, kf, kg, rfl, _⟩ := hr.out.inv
  clear hF hV
  have hS' : b < w.heap.size := hS
  have c0 := hc 0 (.string nm) rfl
  have c1 := hc 1 (.int .i64 k) rfl
  have c2 := hc 2 (.int .i64 n) rfl
  have c3 := hc 3 (.string s) rfl
  have c4 := hc 4 (.slice ka l.length kc) rfl
  have c5 := hc 5 (.slice kf fv.length kg) rfl
  simp only [Nat.zero_mul, Nat.add_zero] at c0 c1 c2 c3 c4 c5
  replace hc := hid hc
  obtain ⟨w2, hw2⟩ : ∃ w2, w2 = (w.alloc (.cells #[.int .i64 6, .int .i64 0, .string ByteArray.empty, .slice la 0 lc, .slice (some ⟨b, off, none⟩) 1 fc] 25)).alloc (.cells #[.int .i64 0, .int .i64 0, .string ⟨#[]⟩, .slice none 0 0, .slice none 0 0] 25) := ⟨_, rfl⟩
  have hb2 : Below w.heap.size w w2 := by rw [hw2]; exact (below_new w _).step (below_new _ _)
  have r2 : Hid (w2.heap[w.heap.size + 1]? = some (.cells #[.int .i64 0, .int .i64 0, .string ⟨#[]⟩, .slice none 0 0, .slice none 0 0] 25 (0, 0))) := by
    show _ = _
    rw [hw2]
    exact al_at (by simp)
  have r1 : Hid (w2.heap[w.heap.size]? = some (.cells #[.int .i64 6, .int .i64 0, .string ByteArray.empty, .slice la 0 lc, .slice (some ⟨b, off, none⟩) 1 fc] 25 (0, 0))) := by
    show _ = _
    rw [hw2]
    exact al_old (al_at rfl)
  have old : ∀ {j : Nat} {v : Value}, w.cell? ⟨b, j, none⟩ = some v → w2.cell? ⟨b, j, none⟩ = some v := fun hv => (hb2.cell hS').trans hv
  replace c0 := old c0
  replace c1 := old c1
  replace c2 := old c2
  replace c3 := old c3
  replace c4 := old c4
  replace c5 := old c5
  replace hb2 := hid hb2
  clear old
  go_enter Tryd.func50, Tryd.ntmps50
  go_upto_region 1 with fail
  rw [← hw2]
  clear hw2
  have d0 := box_at (j := 0) r1.out rfl
  have d1 := box_at (j := 1) r1.out rfl
  have d2 := box_at (j := 2) r1.out rfl
  have d3 := box_at (j := 3) r1.out rfl
  have d4 := box_at (j := 4) r1.out rfl
  go_wp2_with fail
  go_loopg [7, 15] 1 (fun g s7 s15 wr => g = 1 ∧ s15 = .int .i64 0 ∧ wr = w2)
  case atStart => exact ⟨rfl, rfl, rfl⟩
  case round =>
    obtain ⟨rfl, rfl, rfl⟩ := hrel
    clear d0 d1 d2 d3 d4
    go_upto_region 6 with fail
    clear c0 c1 c2 c3 c4 c5
    have hn := below_new wr (.cells #[.string nm, .int .i64 k, .int .i64 n, .string s, .slice ka l.length kc, .slice kf fv.length kg] 50)
    go_wp2_with fail
    refine (hcp.out _ _ _ (hr.out.later (hb2.out.step hn))).mono ?_
    rintro e w5 ⟨cs5, rfl, hr5, h5, _⟩
    obtain ⟨ya, yc, za, zc, rfl, _⟩ := hr5.inv
    have h25 := hn.step h5
    have r5 := hid ((h25.block _ (lt_of_block r2.out)).trans r2.out)
    have hsz : w.heap.size + 1 < wr.heap.size := lt_of_block r2.out
    have e0 := box_at (j := 0) r5.out rfl
    have e1 := box_at (j := 1) r5.out rfl
    have e2 := box_at (j := 2) r5.out rfl
    have e3 := box_at (j := 3) r5.out rfl
    have e4 := box_at (j := 4) r5.out rfl
    have f0 := box_free r5.out
    have hb5 := hid (set5_below (hb2.out.step h25) (by omega : w.heap.size ≤ w.heap.size + 1) (.int .i64 k) (.int .i64 n) (.string s) (.slice ya l.length yc) (.slice za fv.length zc))
    have rz := hid (set5_box (u0 := .int .i64 k) (u1 := .int .i64 n) (u2 := .string s) (u3 := .slice ya l.length yc) (u4 := .slice za fv.length zc) r5.out)
    have hr9 : Hid (Rd (set5 w5 (w.heap.size + 1) (.int .i64 k) (.int .i64 n) (.string s) (.slice ya l.length yc) (.slice za fv.length zc)) (From w.heap.size (set5 w5 (w.heap.size + 1) (.int .i64 k) (.int .i64 n) (.string s) (.slice ya l.length yc) (.slice za fv.length zc))) (.mk k n s l fn fv) [.int .i64 k, .int .i64 n, .string s, .slice ya l.length yc, .slice za fv.length zc]) :=
      hr5.keep (fun c hc => ⟨by have := hc.1; simp at this; omega, by rw [set5_size]; exact hc.2⟩) (fun c hc => set5_other _ _ _ _ _ _ _ (by have := hc.1; simp at this; omega))
    unfold set5 at hb5 rz hr9
    clear hr5 h5 h25 hn
    go_wp2_with fail
    clear e0 e1 e2 e3 e4 f0
    generalize (((((w5.setCell ⟨w.heap.size + 1, 0, none⟩ (.int .i64 k)).setCell ⟨w.heap.size + 1, 1, none⟩ (.int .i64 n)).setCell ⟨w.heap.size + 1, 2, none⟩ (.string s)).setCell ⟨w.heap.size + 1, 3, none⟩ (.slice ya l.length yc)).setCell ⟨w.heap.size + 1, 4, none⟩ (.slice za fv.length zc)) = w9 at *
    have z0 := box_at (j := 0) rz.out rfl
    have z1 := box_at (j := 1) rz.out rfl
    have z2 := box_at (j := 2) rz.out rfl
    have z3 := box_at (j := 3) rz.out rfl
    have z4 := box_at (j := 4) rz.out rfl
    refine ⟨rfl, _, by simp [results, Tryd.results50, go_sem, z0, z1, z2, z3, z4], _, rfl, hb5.out, hr9.out⟩
end Go.Proofs.YtihcegakghmdfaaDoor

namespace Go.Proofs.YtihcegakghmdfaaDoor
open Go.RowKit Go.Proofs

theorem listV_good {l : List PVal} (h : (listV l).good = 0) (hf : (listV l).fits) : ∀ x ∈ l, x.good = 0 := by
  obtain ⟨h1, h2, h3⟩ := sound_of h hf
  intro x hx
  refine good_of (sound_list h1 rfl x hx) ?_ ?_
  · have := depthL_mem hx
    unfold listV at h2
    simp only [PVal.depth, if_true] at h2
    omega
  · have := sizeL_mem hx
    unfold listV at h3
    simp only [PVal.size, show ¬ (5 : Int) = 2 by omega, show ¬ (5 : Int) = 3 by omega, show ¬ (5 : Int) = 4 by omega, if_false, if_true] at h3
    omega
theorem listV_enc (l : List PVal) : (listV l).enc = (5 :: varint l.length) ++ encL l := by
  unfold listV
  simp [PVal.enc]
theorem text_add (a b : List UInt8) : (⟨a.toArray⟩ ++ ⟨b.toArray⟩ : ByteArray) = ⟨(a ++ b).toArray⟩ := by
  apply Go.WideShapes.bytes_inj
  simp [ByteArray.toList_eq]

set_option maxRecDepth 100000 in
set_option maxHeartbeats 4000000 in
theorem nests_calls (vs : List PVal) (hm : massL vs ≤ 1073741824) (nm : ByteArray) (hnm : nm.size ≤ 1073741824) {w : World} {la : Option Addr} {lc : Nat} (hT : Tabs w) (hL : RdL w (Now w) vs (.slice la vs.length lc)) :
    Calls Tryd.prog 11 #[.slice la vs.length lc, .string nm] w fun e w' => e = .returned (.bool true) ∧ Below w.heap.size w w' := by
  have hT0 := hT
  have hT := hid (fun w' hb => Tabs.stays w w' hT hb)
  have haw := hid awake3_calls
  have hll : vs.length ≤ 1759218604441 := by
    obtain ⟨_, _, _, hv, _, h, _⟩ := hL
    exact h.2
  have hv := hid (fun la c' w h => vast_calls vs la c' w h hll)
  have hL0 := hid hL
  cases hvb : vast vs with
  | true =>
    rw [hvb] at hv
    clear hL hvb
    go_enter Tryd.func11, Tryd.ntmps11
    go_wp2_with fail
    refine (haw.out _ hT0).mono ?_
    rintro e w1 ⟨rfl, h1⟩
    go_wp2_with fail
    refine (hv.out _ _ _ (hL0.out.later h1)).mono ?_
    rintro e w2 ⟨rfl, h2⟩
    go_wp2_with fail
    go_ret
    exact ⟨rfl, h1.step h2⟩
  | false =>
    rw [hvb] at hv
    have hnl : ¬ 5000 ≤ nodesL vs := of_decide_eq_false hvb
    have hR := rd_list hL
    have hfL : (listV vs).fits := hR.fits
    have hNL : (listV vs).nodes ≤ 20000 := by unfold listV; simp only [PVal.nodes, nodesL]; omega
    have hmL : (listV vs).enc.length ≤ 1073741824 + 32 := by
      have := enc_le (listV vs) hfL
      unfold listV at this ⊢
      simp only [PVal.mass, massL, massF] at this
      have h0 : ByteArray.empty.size = 0 := rfl
      omega
    have gp := hid (fun w cs hT h => put_calls (listV vs) w cs hNL hT h (by omega))
    unfold Written at gp
    have gx : Hid (∀ (i : Nat) (x : PVal), vs[i]? = some x → (listV vs).good = 0 → ∀ (w : World) (cs : List Value), Tabs w → Rd w (Now w) x cs → Calls Tryd.prog 26 #[.agg cs.toArray] w fun e w' => ∃ v, e = .returned (.tuple #[v, .int .i64 0]) ∧ Buf w.heap.size 5 w w' x.enc v) := fun i x hx hG w cs hT h => by
      have hmem := List.mem_of_getElem? hx
      have h1 := nodes_mem hmem
      have h2 := mass_mem hmem
      have h3 := enc_le x h.fits
      have h4 := listV_good hG hfL x hmem
      have := put_calls x w cs (by omega) hT h (by omega)
      unfold Written at this
      rwa [h4, if_pos rfl] at this
    have hfD : (docV nm (listV vs)).fits := by
      unfold docV
      simp only [PVal.fits, fitsL]
      refine ⟨⟨by decide, by decide⟩, ⟨by decide, by decide⟩, by show (0 : Nat) ≤ _; omega, fun x hx => ?_, rfl, by show (0 : Nat) ≤ _; omega, by show (1 : Nat) ≤ _; omega, trivial, hfL, trivial⟩
      simp only [List.mem_singleton] at hx
      subst hx
      show _ ≤ _
      omega
    have hND : (docV nm (listV vs)).nodes ≤ 20000 := by unfold docV listV; simp only [PVal.nodes, nodesL]; omega
    have hmD : (docV nm (listV vs)).enc.length ≤ 2147483648 + 200 := by
      have := enc_le (docV nm (listV vs)) hfD
      unfold docV listV at this ⊢
      simp only [PVal.mass, massL, massF] at this
      have h0 : ByteArray.empty.size = 0 := rfl
      omega
    have gpD := hid (fun w cs hT h => put_calls (docV nm (listV vs)) w cs hND hT h (by omega))
    unfold Written at gpD
    have ggD := hid (fun w cs hT h => good_calls (docV nm (listV vs)) w cs hND hT h)
    have gtD : Hid ((docV nm (listV vs)).good = 0 → ∀ (w' : World) (bv : Value), BytesAt w' (Now w') (docV nm (listV vs)).enc bv → Tabs w' → Calls Tryd.prog 27 #[bv] w' fun e w2 => ∃ cs, e = .returned (.tuple #[.agg cs.toArray, .int .i64 0]) ∧ Below w'.heap.size w' w2 ∧ Rd w2 (From w'.heap.size w2) (docV nm (listV vs)) cs) := fun hG w' bv h hT => by
      have := (get_calls h hT (by omega)).mono fun e w2 h => gotV_case h
      rwa [getR_enc hG hfD] at this
    have gfD := hid (fun w cs h => find_calls nm (listV vs) w cs h)
    have hs3 := hid (fun w cs cs' => same3_calls (listV vs) (listV vs) true (by simp) w cs cs')
    have hdo := hid (fun w cs h => doc_calls nm (listV vs) (Now w) w cs (by omega) h (fun _ h => h))
    have hneD : Hid ((docV nm (listV vs)).enc ≠ []) := by
      show _ ≠ _
      unfold docV
      simp [PVal.enc]
    have hrl := hid (fun (w' : World) (h : Below w.heap.size w w') => rd_list (hL.later h))
    generalize hGD : (docV nm (listV vs)).good = GD at *
    generalize hED : (docV nm (listV vs)).enc = eD at *
    clear hGD hED hfD hND hmD
    have henc := listV_enc vs
    have hen0 : Hid ((listV vs).enc ≠ []) := by show _ ≠ _; rw [henc]; simp
    replace henc := hid henc
    replace hmL := hid hmL
    generalize hG0 : (listV vs).good = G at *
    generalize hE0 : (listV vs).enc = en at *
    clear hL hvb
    go_enter Tryd.func11, Tryd.ntmps11
    go_wp2_with fail
    refine (haw.out _ hT0).mono ?_
    rintro e w1 ⟨rfl, h1⟩
    go_wp2_with fail
    refine (hv.out _ _ _ (hL0.out.later h1)).mono ?_
    rintro e w2 ⟨rfl, h2⟩
    have D := hid (h1.step h2)
    clear h1 h2
    go_upto_region 6 with fail
    obtain ⟨w3, hw3⟩ : ∃ w3, w3 = w2.alloc (.cells #[.int .i64 5, .int .i64 0, .string ⟨#[]⟩, .slice la vs.length lc, .slice none 0 0] 25) := ⟨_, rfl⟩
    have h3 : Below w2.heap.size w2 w3 := by rw [hw3]; exact below_new _ _
    have r5 : Hid (w3.heap[w2.heap.size]? = some (.cells #[.int .i64 5, .int .i64 0, .string ⟨#[]⟩, .slice la vs.length lc, .slice none 0 0] 25 (0, 0))) := by show _ = _; rw [hw3]; exact heap_alloc_new _ _
    rw [← hw3]
    clear hw3
    replace D := hid (D.out.step h3)
    clear h3
    have a0 := box_at (j := 0) r5.out rfl
    have a1 := box_at (j := 1) r5.out rfl
    have a2 := box_at (j := 2) r5.out rfl
    have a3 := box_at (j := 3) r5.out rfl
    have a4 := box_at (j := 4) r5.out rfl
    go_wp2_with fail
    clear a0 a1 a2 a3 a4
    refine (gp.out _ _ (hT.out _ D.out) (rd_list (hL0.out.later D.out))).mono ?_
    rintro e w4 ⟨v4, rfl, hp4⟩
    replace r5 := hid ((hp4.below.block _ (lt_of_block r5.out)).trans r5.out)
    replace D := hid (D.out.step hp4.below)
    go_upto_if 30 with fail
    go_cut [8, 9, 10, 11] from 29 to 67 (fun _ _ _ _ wx => Below w4.heap.size w4 wx)
    case first =>
      by_cases hG : G = 0
      · subst hG
        rw [if_pos rfl] at hp4
        replace gx := hid (fun i x hx => gx.out i x hx rfl)
        obtain ⟨pa, pc, rfl, hpc, _⟩ := hp4.any
        have hp := hid hp4.bytes
        replace hp4 := hid hp4
        go_wp2_with fail
        go_loopg [8, 9, 10, 11] vs.length (fun g a i p f wr => ∃ j : Nat, g + j = vs.length ∧ i = .int .i64 j ∧ a = .string ⟨(encL (vs.take j)).toArray⟩ ∧ Below w4.heap.size w4 wr)
        case atStart => exact ⟨0, by omega, rfl, rfl, Below.refl _ _⟩
        case round =>
          obtain ⟨j, hj, rfl, rfl, hb⟩ := hrel
          by_cases hlt : j < vs.length
          · obtain ⟨x, hx⟩ : ∃ x, vs[j]? = some x := ⟨_, List.getElem?_eq_getElem hlt⟩
            obtain ⟨b, off, cs, rfl, _, hc, hr⟩ := (hL0.out.later (D.out.step hb)).at_ hx
            have hgx := hid (gx.out j x hx)
            have hsx : encL (vs.take (j + 1)) = encL (vs.take j) ++ x.enc := encL_succ hx
            replace hsx := hid hsx
            have hszs : (encL (vs.take j)).length + x.enc.length ≤ 1073741856 := by
              have e1 := congrArg List.length hsx.out
              rw [List.length_append] at e1
              have e2 := congrArg List.length (encL_append (vs.take (j + 1)) (vs.drop (j + 1)))
              rw [List.take_append_drop, List.length_append] at e2
              have e3 := congrArg List.length henc.out
              rw [List.length_append] at e3
              have := hmL.out
              omega
            obtain ⟨A, hA⟩ : ∃ A : ByteArray, A = ⟨(encL (vs.take j)).toArray⟩ := ⟨_, rfl⟩
            obtain ⟨B, hB⟩ : ∃ B : ByteArray, B = ⟨x.enc.toArray⟩ := ⟨_, rfl⟩
            have hAs : A.size = (encL (vs.take j)).length := by rw [hA]; simp [ByteArray.size]
            have hBs : B.size = x.enc.length := by rw [hB]; simp [ByteArray.size]
            have hAB : A.size + B.size ≤ 1073741856 := by omega
            have hAB2 : Hid (A ++ B = ⟨(encL (vs.take (j + 1))).toArray⟩) := by show _ = _; rw [hA, hB, hsx.out, text_add]
            clear hAs hBs hszs hsx
            rw [← hA]
            replace hA := hid hA
            obtain ⟨xk, xn, xs, xl, xfn, xfv⟩ := x
            obtain ⟨xa, xc, za, zc, rfl, _⟩ := hr.inv
            have c0 := hc 0 _ rfl
            have c1 := hc 1 _ rfl
            have c2 := hc 2 _ rfl
            have c3 := hc 3 _ rfl
            have c4 := hc 4 _ rfl
            rw [Nat.add_zero] at c0
            replace hb := hid hb
            replace hr := hid hr
            clear hc
            go_wp2_with fail
            clear c0 c1 c2 c3 c4
            refine (hgx.out _ _ (hT.out _ (D.out.step hb.out)) hr.out).mono ?_
            rintro e w5 ⟨v5, rfl, hb5⟩
            have cv := conv_buf (P := Tryd.prog) Tryd.underlying26 Tryd.underlying5 Tryd.underlying9 hb5
            rw [← hB] at cv
            clear hB
            have hbn := hid (hb.out.step hb5.below)
            replace hb5 := hid hb5
            go_wp2_with fail
            go_roundg (vs.length - (j + 1))
            case measure => omega
            case rel => exact ⟨j + 1, by omega, by go_num, by rw [← hAB2.out], hbn.out⟩
          · have hj2 : vs.take j = vs := List.take_of_length_le (by omega)
            rw [hj2]
            obtain ⟨X, hX⟩ : ∃ X : ByteArray, X = ⟨(encL vs).toArray⟩ := ⟨_, rfl⟩
            rw [← hX]
            have hXs : X.size = (encL vs).length := by rw [hX]; simp [ByteArray.size]
            have e3 := congrArg List.length henc.out
            rw [List.length_append] at e3
            have hm3 := hmL.out
            have hdr : en.drop (en.length - (encL vs).length) = encL vs := by
              conv => lhs; arg 2; rw [henc.out]
              rw [show en.length - (encL vs).length = (5 :: varint vs.length).length by omega, List.drop_left]
            obtain ⟨q0, hq0⟩ : ∃ q0, q0 = en.length - (encL vs).length := ⟨_, rfl⟩
            have g1 : ¬ ((en.length : Int) < (X.size : Int)) := by omega
            have g2 : IntKind.i64.wrap ((en.length : Int) - (X.size : Int)) = (q0 : Int) := by rw [IntWalk.i64_in _ (by omega)]; omega
            have g3 : (q0 : Int) ≤ (en.length : Int) := by omega
            have g4 : (en.length : Int) ≤ (pc : Int) := by omega
            have cv := conv_part (p := q0) (n := (encL vs).length) (hp.out.later hb) (by omega)
            rw [hq0] at cv
            obtain ⟨A, hif⟩ : ∃ A, (if pc = q0 then pa else Option.map (fun x => x.add q0) pa) = A := ⟨_, rfl⟩
            rw [hdr, ← hq0, List.take_of_length_le (Nat.le_refl _), ← hX, sliced, show q0 + (encL vs).length - q0 = en.length - q0 by omega, Nat.mul_one, hif] at cv
            clear hq0 hdr hm3 e3 hXs hX hj2
            replace hpc := hid hpc
            go_wp2_with fail
            go_meet
            exact hb
      · go_wp2_with fail
        go_meet
        exact Below.refl _ _
    case rest =>
      replace r5 := hid ((hcut.block _ (lt_of_block r5.out)).trans r5.out)
      have D5 := hid (D.out.step hcut)
      clear hcut hp4 gp gx hv haw D hen0 henc hmL hE0 hG0
      have a0 := box_at (j := 0) r5.out rfl
      have a1 := box_at (j := 1) r5.out rfl
      have a2 := box_at (j := 2) r5.out rfl
      have a3 := box_at (j := 3) r5.out rfl
      have a4 := box_at (j := 4) r5.out rfl
      go_wp2_with fail
      clear a0 a1 a2 a3 a4
      refine (hdo.out _ _ (hrl.out _ D5.out)).mono ?_
      rintro e w6 ⟨fa, fc, rfl, hr6, h6⟩
      replace hr6 : Hid (Rd w6 (Now w6) (docV nm (listV vs)) _) := hr6.keep (fun b hb => by
        rcases hb with hb | hb
        · exact Nat.lt_of_lt_of_le hb h6.size
        · exact hb.2) (fun _ _ => rfl)
      replace r5 := hid ((h6.block _ (lt_of_block r5.out)).trans r5.out)
      replace D5 := hid (D5.out.step h6)
      clear h6
      go_upto_region 19 with fail
      obtain ⟨w7, hw7⟩ : ∃ w7, w7 = w6.alloc (.cells #[.int .i64 6, .int .i64 0, .string ByteArray.empty, .slice none 0 0, .slice fa 1 fc] 25) := ⟨_, rfl⟩
      have h7 : Below w6.heap.size w6 w7 := by rw [hw7]; exact below_new _ _
      have r12 : Hid (w7.heap[w6.heap.size]? = some (.cells #[.int .i64 6, .int .i64 0, .string ByteArray.empty, .slice none 0 0, .slice fa 1 fc] 25 (0, 0))) := by show _ = _; rw [hw7]; exact heap_alloc_new _ _
      rw [← hw7]
      clear hw7
      replace r5 := hid ((h7.block _ (lt_of_block r5.out)).trans r5.out)
      replace D5 := hid (D5.out.step h7)
      replace hr6 := hid (hr6.out.later h7)
      clear h7
      have a0 := box_at (j := 0) r12.out rfl
      have a1 := box_at (j := 1) r12.out rfl
      have a2 := box_at (j := 2) r12.out rfl
      have a3 := box_at (j := 3) r12.out rfl
      have a4 := box_at (j := 4) r12.out rfl
      go_wp2_with fail
      clear a0 a1 a2 a3 a4
      refine (gpD.out _ _ (hT.out _ D5.out) hr6.out).mono ?_
      rintro e w8 ⟨v8, rfl, hp8⟩
      replace r5 := hid ((hp8.below.block _ (lt_of_block r5.out)).trans r5.out)
      replace r12 := hid ((hp8.below.block _ (lt_of_block r12.out)).trans r12.out)
      replace D5 := hid (D5.out.step hp8.below)
      replace hr6 := hid (hr6.out.later hp8.below)
      by_cases hG : GD = 0
      · subst hG
        rw [if_pos rfl] at hp8
        obtain ⟨pg, pc, rfl, _⟩ := hp8.form hneD.out
        have hp := hid hp8.bytes
        clear hp8
        replace gtD := hid (gtD.out rfl)
        go_wp2_with fail
        refine (gtD.out _ _ hp.out (hT.out _ D5.out)).mono ?_
        rintro e w9 ⟨cs9, rfl, h9, hr9⟩
        replace hr9 : Hid (Rd w9 (Now w9) (docV nm (listV vs)) cs9) := hr9.keep (fun b hb => hb.2) (fun _ _ => rfl)
        have hi9 := hr9.out
        unfold docV at hi9
        obtain ⟨xa, xc, za, zc, rfl, _⟩ := hi9.inv
        clear hi9
        replace r5 := hid ((h9.block _ (lt_of_block r5.out)).trans r5.out)
        replace D5 := hid (D5.out.step h9)
        clear h9
        have hn := hid (below_new w9 (.cells #[.int .i64 6, .int .i64 0, .string ByteArray.empty, .slice xa 0 xc, .slice za 1 zc] 25))
        go_wp2_with fail
        refine (gfD.out _ _ (hr9.out.later hn.out)).mono ?_
        rintro e wa ⟨csa, rfl, ha, hra⟩
        replace hra : Hid (Rd wa (Now wa) (listV vs) csa) := hra.keep (fun b hb => hb.2) (fun _ _ => rfl)
        have hia := hra.out
        unfold listV at hia
        obtain ⟨ya, yc, ua, uc, rfl, _⟩ := hia.inv
        clear hia
        have ha' := hn.out.step ha
        replace r5 := hid ((ha'.block _ (lt_of_block r5.out)).trans r5.out)
        replace D5 := hid (D5.out.step ha')
        clear ha ha' hn
        go_upto_region 24 with fail
        obtain ⟨wb, hwb⟩ : ∃ wb, wb = wa.alloc (.cells #[.int .i64 5, .int .i64 0, .string ByteArray.empty, .slice ya vs.length yc, .slice ua 0 uc] 25) := ⟨_, rfl⟩
        have hb : Below wa.heap.size wa wb := by rw [hwb]; exact below_new _ _
        have r16 : Hid (wb.heap[wa.heap.size]? = some (.cells #[.int .i64 5, .int .i64 0, .string ByteArray.empty, .slice ya vs.length yc, .slice ua 0 uc] 25 (0, 0))) := by show _ = _; rw [hwb]; exact heap_alloc_new _ _
        rw [← hwb]
        clear hwb
        replace r5 := hid ((hb.block _ (lt_of_block r5.out)).trans r5.out)
        replace D5 := hid (D5.out.step hb)
        replace hra := hid (hra.out.later hb)
        clear hb
        have a0 := box_at (j := 0) r5.out rfl
        have a1 := box_at (j := 1) r5.out rfl
        have a2 := box_at (j := 2) r5.out rfl
        have a3 := box_at (j := 3) r5.out rfl
        have a4 := box_at (j := 4) r5.out rfl
        have b0 := box_at (j := 0) r16.out rfl
        have b1 := box_at (j := 1) r16.out rfl
        have b2 := box_at (j := 2) r16.out rfl
        have b3 := box_at (j := 3) r16.out rfl
        have b4 := box_at (j := 4) r16.out rfl
        go_wp2_with fail
        refine (hs3.out _ _ _ hra.out (hrl.out _ D5.out)).mono ?_
        rintro e wc ⟨rfl, hc⟩
        go_wp2_with fail
        go_ret
        exact ⟨rfl, D5.out.step hc⟩
      · rw [if_neg hG] at hp8
        obtain ⟨pa, pc, rfl, _, _⟩ := hp8.any
        clear hp8
        have hG2 : (GD != 0) = true := by simp [hG]
        have a0 := box_at (j := 0) r12.out rfl
        have a1 := box_at (j := 1) r12.out rfl
        have a2 := box_at (j := 2) r12.out rfl
        have a3 := box_at (j := 3) r12.out rfl
        have a4 := box_at (j := 4) r12.out rfl
        go_wp2_with fail
        clear a0 a1 a2 a3 a4
        refine (ggD.out _ _ (hT.out _ D5.out) hr6.out).mono ?_
        rintro e w9 ⟨rfl, h9⟩
        go_wp2_with fail
        go_ret
        exact ⟨by simp, D5.out.step h9⟩
end Go.Proofs.YtihcegakghmdfaaDoor
