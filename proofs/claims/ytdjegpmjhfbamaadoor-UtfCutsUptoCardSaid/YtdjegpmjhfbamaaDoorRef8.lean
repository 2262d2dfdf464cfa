/-
  Walks: the reference's texts. Plain: a value's mass.
-/
import Derived.Test.YtdjegpmjhfbamaaDoorRef3
import Derived.Test.YtdjegpmjhfbamaaDoorRef4
import Derived.Test.YtdjegpmjhfbamaaDoorRef7
import Derived.Test.YtdjegpmjhfbamaaDoorMass
namespace Go.Proofs.YtdjegpmjhfbamaaDoor
open Go.RowKit Go.Proofs

theorem enc_le (V : PVal) : V.fits → V.enc.length ≤ V.mass := by
  induction V using PVal.ind with
  | h k n s l fn fv hl hf =>
    intro h
    simp only [PVal.fits, fitsL_iff, I64, Lim] at h
    obtain ⟨hk, hn, hs, hfn, hlen, hll, hfl, hL, hF⟩ := h
    have e1 : ∀ l : List PVal, (∀ x ∈ l, x.enc.length ≤ x.mass) → (encL l).length ≤ massL l := by
      intro l
      induction l with
      | nil => intro _; simp [encL]
      | cons y r ih =>
        intro h
        have := h y (by simp)
        have := ih (fun x hx => h x (by simp [hx]))
        simp only [encL, massL, List.length_append]
        omega
    have e2 : ∀ (fn : List ByteArray) (fv : List PVal), (∀ x ∈ fn, x.size ≤ 140737488355328) → (∀ x ∈ fv, x.enc.length ≤ x.mass) → (encF fn fv).length ≤ massF fn + massL fv := by
      intro fn
      induction fn with
      | nil => intro fv _ _; simp [encF]
      | cons a r ih =>
        intro fv hs h
        cases fv with
        | nil => simp [encF]
        | cons y r' =>
          have h1 := h y (by simp)
          have h2 := ih r' (fun x hx => hs x (by simp [hx])) (fun x hx => h x (by simp [hx]))
          have h3 := digits_le a.size (by have := hs a (by simp); omega)
          simp only [encF, massL, massF, List.length_append, varint_length]
          have : a.data.toList.length = a.size := by simp
          omega
    have h1 := e1 l (fun x hx => hl x hx (hL x hx))
    have h2 := e2 fn fv hfn (fun x hx => hf x hx (hF x hx))
    have d1 := digits_le (turned n) (turned_lt hn)
    have d2 := digits_le s.size (by omega)
    have d3 := digits_le l.length (by omega)
    have d4 := digits_le fv.length (by omega)
    have hsz : s.data.toList.length = s.size := by simp
    simp only [PVal.enc, PVal.mass, List.length_cons]
    split
    · simp; omega
    split
    · rw [varint_length]; omega
    split
    · rw [List.length_append, varint_length]; omega
    split
    · rw [List.length_append, varint_length]; omega
    split
    · rw [List.length_append, varint_length]; omega
    · simp; omega

set_option maxRecDepth 100000 in
set_option maxHeartbeats 4000000 in
theorem texts_calls : ∀ (V : PVal) (w : World) (cs : List Value), V.mass ≤ 1073741824 → Rd w (Now w) V cs →
    Calls Tryd.prog 84 #[.agg cs.toArray] w fun e w' => e = .returned (.bool (V.all spelledB)) ∧ Below w.heap.size w w' := by
  intro V
  induction hN : V.nodes using Nat.strongRecOn generalizing V with
  | _ N ih =>
  subst hN
  intro w cs hm hV
  have hd := all_parts spelledB V
  have hp := hid (fun w cs h => rparts_calls V w cs h)
  have hpn := nodes_parts V
  have hmp := hid (fun x hx => Nat.le_trans (parts_mass V x hx) hm)
  have hV0 := hid hV
  obtain ⟨O, hO⟩ : ∃ O, O = spelledB V := ⟨_, rfl⟩
  rw [← hO] at hd
  generalize V.parts = ps at *
  generalize V.all spelledB = A at *
  replace hd := hid hd
  obtain ⟨k, n, s, l, fn, fv⟩ := V
  obtain ⟨la, lc, fa, fc, rfl, hk, hn, hs, hlc, hlm, hfc, hfm, hL, hF⟩ := hV.inv
  have hfl := hid hF.1
  have hF0 := hid hF
  replace hO := hid hO
  have hFalse : Hid (O = false → A = false) := fun h => by rw [hd.out, h]; rfl
  have hsm : s.size ≤ 1073741824 := by simp only [PVal.mass] at hm; omega
  have hmn : Hid (∀ x ∈ fn, x.size ≤ 1073741824) := fun x hx => by
    have := massF_mem hx
    simp only [PVal.mass] at hm
    omega
  clear hm
  have hlim := hF.lim
  obtain ⟨us, hus⟩ : ∃ b, b = utf s := ⟨_, rfl⟩
  have hvs := hid (fun w => rvalid_calls s (by omega) w)
  have hOf : Hid (O = (utf s && fn.all utf)) := hO.out
  rw [← hus] at hvs hOf
  clear hus
  go_enter Tryd.func84, Tryd.ntmps84
  go_wp2_with fail
  refine (hvs.out _).mono ?_
  rintro e w0 ⟨rfl, hb0⟩
  cases us with
  | false =>
    have hA := hid (hFalse.out (hOf.out.trans (Bool.false_and _)))
    go_wp2_with fail
    go_ret
    exact ⟨by rw [hA.out]; rfl, (below_new _ _).step hb0⟩
  | true =>
    replace hOf : Hid (O = fn.all utf) := hOf.out.trans (Bool.true_and _)
    go_wp2_with fail
    go_loopg [3] fv.length (fun g i wr => ∃ m : Nat, (g + m = fv.length) ∧ i = .int .i64 m ∧ (fn.take m).all utf = true ∧ Below (w.alloc (.cells #[.int .i64 k, .int .i64 n, .string s, .slice la l.length lc, .slice fa fv.length fc] 52)).heap.size (w.alloc (.cells #[.int .i64 k, .int .i64 n, .string s, .slice la l.length lc, .slice fa fv.length fc] 52)) wr)
    case atStart => exact ⟨0, by omega, rfl, rfl, hb0⟩
    case round =>
      obtain ⟨m, hj, rfl, htk, hbr⟩ := hrel
      have hpr := hF0.out.later ((below_new _ _).step hbr)
      replace htk := hid htk
      by_cases hlt : m < fv.length
      · obtain ⟨x, hx⟩ : ∃ x, fv[m]? = some x := ⟨_, List.getElem?_eq_getElem hlt⟩
        obtain ⟨nm, hnm⟩ : ∃ nm, fn[m]? = some nm := ⟨_, List.getElem?_eq_getElem (by rw [hfl.out]; exact hlt)⟩
        obtain ⟨b, off, xs, rfl, hxS, hxc, hxr, hnz⟩ := hpr.at_ hnm hx
        have c4 := box_cell (j := 4) hbr rfl
        have c0 : wr.cell? ⟨b, off + m * 6, none⟩ = some (.string nm) := hxc 0 _ rfl
        clear hxc hx
        have hns := hmn.out nm (List.mem_of_getElem? hnm)
        replace hnm := hid hnm
        obtain ⟨un, hun⟩ : ∃ b, b = utf nm := ⟨_, rfl⟩
        have hvn := hid (fun w => rvalid_calls nm (by omega) w)
        rw [← hun] at hvn
        replace hun := hid hun
        go_wp2_with fail
        refine (hvn.out _).mono ?_
        rintro e w3 ⟨rfl, hb3⟩
        cases un with
        | false =>
          have hA := hid (hFalse.out (hOf.out.trans (all_no hnm.out hun.out.symm)))
          go_wp2_with fail
          go_ret
          exact ⟨by rw [hA.out]; rfl, (below_new _ _).step (hbr.step hb3)⟩
        | true =>
          go_wp2_with fail
          go_roundg (fv.length - (m + 1))
          case measure => omega
          case rel => exact ⟨m + 1, by omega, by go_num, by rw [take_succ_of hnm.out, List.all_append, htk.out]; simp [← hun.out], hbr.step hb3⟩
      · have hOt : Hid (O = true) := by
          have h1 : fn.take m = fn := List.take_of_length_le (by rw [hfl.out]; omega)
          rw [h1] at htk
          exact hOf.out.trans htk.out
        have A0 := box_cell (j := 0) hbr rfl
        have A1 := box_cell (j := 1) hbr rfl
        have A2 := box_cell (j := 2) hbr rfl
        have A3 := box_cell (j := 3) hbr rfl
        have A4 := box_cell (j := 4) hbr rfl
        have hB := hid ((below_new _ _).step hbr)
        go_wp2_with fail
        refine (hp.out _ _ (hV0.out.later hB.out)).mono ?_
        rintro e w1 ⟨pa, pc, rfl, hps, hb1⟩
        have hB1 := hid (hB.out.step hb1)
        have hpl := hps.lim
        clear A0 A1 A2 A3 A4
        go_wp2_with fail
        go_loopg [5] ps.length (fun g i wr => ∃ j : Nat, g + j = ps.length ∧ i = .int .i64 j ∧ (ps.take j).all (·.all spelledB) = true ∧ Below w1.heap.size w1 wr)
        case atStart => exact ⟨0, by omega, rfl, rfl, Below.refl _ _⟩
        case round =>
          obtain ⟨j, hj, rfl, htk, hbr2⟩ := hrel
          replace htk := hid htk
          have hpr := hps.later hbr2
          by_cases hlt : j < ps.length
          · obtain ⟨x, hx⟩ : ∃ x, ps[j]? = some x := ⟨_, List.getElem?_eq_getElem hlt⟩
            obtain ⟨b, off, xs, rfl, hxS, hxc, hxr⟩ := hpr.at_ hx
            have hxn := nodes_mem (List.mem_of_getElem? hx)
            obtain ⟨T, hT⟩ : ∃ T, T = x.all spelledB := ⟨_, rfl⟩
            have hcx := hid (fun w cs h => ih x.nodes (by omega) x rfl w cs (hmp.out x (List.mem_of_getElem? hx)) h)
            rw [← hT] at hcx
            replace hT := hid hT
            replace hx := hid hx
            obtain ⟨xk, xn, xsx, xl, xfn, xfv⟩ := x
            obtain ⟨xla, xlc, xfa, xfc, rfl, _⟩ := hxr.inv
            obtain ⟨c0, c1, c2, c3, c4⟩ := five hxc
            clear hxc
            go_wp2_with fail
            refine (hcx.out _ _ hxr).mono ?_
            rintro e w2 ⟨rfl, hb2⟩
            cases T with
            | false =>
              have hA : Hid (A = false) := by
                show _ = _
                rw [hd.out, all_no hx.out hT.out.symm, Bool.and_false]
              go_wp2_with fail
              go_ret
              exact ⟨by rw [hA.out]; rfl, hB1.out.step (hbr2.step hb2)⟩
            | true =>
              go_wp2_with fail
              go_roundg (ps.length - (j + 1))
              case measure => omega
              case rel => exact ⟨j + 1, by omega, by go_num, by rw [take_succ_of hx.out, List.all_append, htk.out]; simp [← hT.out], hbr2.step hb2⟩
          · have hA : Hid (A = true) := by
              have : j = ps.length := by omega
              subst this
              have h := htk.out
              rw [List.take_length] at h
              show _ = _
              rw [hd.out, h, hOt.out]; rfl
            go_wp2_with fail
            go_ret
            exact ⟨by rw [hA.out]; rfl, hB1.out.step hbr2⟩

end Go.Proofs.YtdjegpmjhfbamaaDoor
