/-
  Walk: the law UtfParts.
-/
import Derived.Test.YtdjegpmjhfbamaaDoorUtf8
import Derived.Test.YtdjegpmjhfbamaaDoorOpenU
namespace Go.Proofs.YtdjegpmjhfbamaaDoor
open Go.RowKit Go.Proofs

theorem and7 (x : Int) (h0 : 0 ≤ x) (h1 : x < 256) : ∃ m : Nat, bits .and .u8 x 7 = (m : Int) ∧ m ≤ 7 := by
  obtain ⟨k, rfl⟩ := Int.eq_ofNat_of_zero_le h0
  have key : ∀ k : Fin 256, bits .and .u8 (k.1 : Int) 7 = ((k.1 % 8 : Nat) : Int) := by decide +kernel
  exact ⟨k % 8, key ⟨k, by omega⟩, by omega⟩
theorem NumsAt.later {k : IntKind} {w w' : World} {rs : List Int} {v : Value} (h : NumsAt k w rs v) (hb : Below w.heap.size w w') : NumsAt k w' rs v := by
  obtain ⟨a, cap, h1, h2, h3, h4, h5⟩ := h
  refine ⟨a, cap, h1, h2, h3, h4, ?_⟩
  rcases h5 with h5 | ⟨b, off, e, hl, hc⟩
  · exact .inl h5
  · exact .inr ⟨b, off, e, Nat.lt_of_lt_of_le hl hb.size, fun j x hx => (hb.cell (p := ⟨b, off + j, none⟩) hl).trans (hc j x hx)⟩
theorem wf_u8 {x : Int} (h : (Lit.int .u8 x).wf = true) : 0 ≤ x ∧ x < 256 := by
  simp only [Lit.wf, Bool.and_eq_true, decide_eq_true_eq] at h
  have h1 : 0 ≤ x := h.1
  have h2 : x ≤ 255 := h.2
  omega
theorem textL_take (rs : List Nat) (i j : Nat) (h : i ≤ j) : textL (rs.take j) = textL (rs.take i) ++ textL ((rs.drop i).take (j - i)) := by
  rw [← textL_append]
  congr 1
  conv => lhs; rw [show j = i + (j - i) by omega, List.take_add]
theorem ba_append {A p : ByteArray} : (A ++ p).data.toList = A.data.toList ++ p.data.toList := by rw [ByteArray.data_append, Array.toList_append]
theorem cut_ok (s : ByteArray) (rs : List Nat) (h : runesD s.data.toList = some rs) (i j : Nat) (hij : i ≤ j) (hj : j ≤ rs.length) : cutP s i j = (⟨(textL ((rs.drop i).take (j - i))).toArray⟩, 0) := by
  unfold cutP
  rw [h]
  simp only
  rw [if_neg (by omega)]
  rfl
theorem count_ok (rs : List Nat) (h : ∀ v ∈ rs, Ch v) : ((runesD (textL rs)).getD []).length = rs.length ∧ utf ⟨(textL rs).toArray⟩ = true := by
  have := text_runes rs h
  constructor
  · rw [this]; rfl
  · unfold utf
    rw [arr_toList, ← runes_valid, this]; rfl

set_option maxRecDepth 100000 in
set_option maxHeartbeats 8000000 in
theorem uparts_calls (s : ByteArray) (hs : s.size ≤ 4294967296) (bs : List Int) (hbl : bs.length ≤ 4294967296) (v : Value) (w : World) (hv : NumsAt .u8 w bs v) (hT : Tabs w) :
    Calls Tryd.prog 8 #[.string s, v] w fun e w' => e = .returned (.bool true) ∧ Below w.heap.size w w' := by
  have haw := hid (uawake_calls w hT)
  have hT := hid (fun w' hb => Tabs.stays w w' hT hb)
  have hc := hid (fun w hT => count_calls_utf s (by omega) w hT)
  have hval : Hid ((runesD s.data.toList).isSome = utf s) := runesD_valid _ _ rfl
  have hll : Hid (s.data.toList.length = s.size) := by show _ = _; simp
  have hv0 := hid hv
  obtain ⟨a, cap, rfl, hc1, hc2, hwf, hcs⟩ := hv
  replace hcs := hid hcs
  replace hwf := hid hwf
  cases hrs : runesD s.data.toList with
  | none =>
    have hu : utf s = false := by rw [← hval.out, hrs]; rfl
    rw [hu, if_neg (by simp)] at hc
    generalize (((runesD s.data.toList).getD []).length : Nat) = z at *
    clear hrs hu
    go_enter Tryd.func8, Tryd.ntmps8
    go_wp2_with fail
    refine haw.out.mono ?_
    rintro e w1 ⟨rfl, h1⟩
    go_wp2_with fail
    refine (hc.out _ (hT.out _ h1)).mono ?_
    rintro e w2 ⟨rfl, h2⟩
    go_wp2_with fail
    go_ret
    exact ⟨rfl, h1.step h2⟩
  | some rs =>
    have hu : utf s = true := by rw [← hval.out, hrs]; rfl
    have hch := hid (runes_text hrs).2
    have htx := hid (runes_text hrs).1
    have hrl := runes_len hrs
    rw [hll.out] at hrl
    rw [hu, if_pos rfl, hrs] at hc
    have hc' : Hid (∀ w, Tabs w → Calls Tryd.prog 30 #[.string s] w fun e w' => e = .returned (.tuple #[.int .i64 (rs.length : Nat), .int .i64 0]) ∧ Below w.heap.size w w') := hc
    clear hc
    have hcut : Hid (∀ (i j : Nat), i ≤ j → j ≤ rs.length → ∀ w, Tabs w → Calls Tryd.prog 31 #[.string s, .int .i64 i, .int .i64 j] w fun e w' => e = .returned (.tuple #[.string ⟨(textL ((rs.drop i).take (j - i))).toArray⟩, .int .i64 0]) ∧ Below w.heap.size w w') := fun i j hij hj w hT => by
      have h := cut_calls s (by omega) i j (by omega) (by omega) w hT
      rw [cut_ok s rs hrs i j hij hj] at h
      exact h
    have hcnt : Hid (∀ (i j : Nat), i ≤ j → j ≤ rs.length → ∀ w, Tabs w → Calls Tryd.prog 30 #[.string ⟨(textL ((rs.drop i).take (j - i))).toArray⟩] w fun e w' => e = .returned (.tuple #[.int .i64 ((j - i : Nat) : Int), .int .i64 0]) ∧ Below w.heap.size w w') := fun i j hij hj w hT => by
      have hk := count_ok ((rs.drop i).take (j - i)) (fun v hv => hch.out v (List.mem_of_mem_drop (List.mem_of_mem_take hv)))
      have hl := (textL_le ((rs.drop i).take (j - i))).2
      rw [List.length_take, List.length_drop] at hl hk
      have h := count_calls_utf ⟨(textL ((rs.drop i).take (j - i))).toArray⟩ (by rw [arr_size]; omega) w hT
      rw [hk.2, if_pos rfl, arr_toList, hk.1, show min (j - i) (rs.length - i) = j - i by omega] at h
      exact h
    have hfin : Hid (∀ A : ByteArray, A.data.toList = textL rs → A = s) := fun A h => by rw [← ba_eq A, h, htx.out, ba_eq]
    have hstep : Hid (∀ (A : ByteArray) (i j : Nat), i ≤ j → A.data.toList = textL (rs.take i) → (A ++ ⟨(textL ((rs.drop i).take (j - i))).toArray⟩ : ByteArray).data.toList = textL (rs.take j)) := fun A i j hij h => by
      rw [ba_append, h, arr_toList, ← textL_take rs i j hij]
    have hAl : Hid (∀ (A : ByteArray) (i : Nat), A.data.toList = textL (rs.take i) → A.size ≤ 17179869184) := fun A i h => by
      rw [Lib.size_eq, h]
      have := (textL_le (rs.take i)).2
      rw [List.length_take] at this
      omega
    have hpl : Hid (∀ (i j : Nat), j ≤ rs.length → (⟨(textL ((rs.drop i).take (j - i))).toArray⟩ : ByteArray).size ≤ 17179869184) := fun i j hj => by
      rw [arr_size]
      have := (textL_le ((rs.drop i).take (j - i))).2
      rw [List.length_take, List.length_drop] at this
      omega
    replace hrs := hid hrs
    clear hu
    go_enter Tryd.func8, Tryd.ntmps8
    go_wp2_with fail
    refine haw.out.mono ?_
    rintro e w1 ⟨rfl, h1⟩
    go_wp2_with fail
    refine (hc'.out _ (hT.out _ h1)).mono ?_
    rintro e w2 ⟨rfl, h2⟩
    replace h2 := hid (h1.step h2)
    go_wp2_with fail
    go_loopg [7, 8, 9] (bs.length + 1) (fun g x y z wr => ∃ (i p : Nat) (A : ByteArray), g + i = bs.length + 1 ∧ x = .int .i64 p ∧ y = .string A ∧ z = .int .i64 i ∧ p ≤ rs.length ∧ A.data.toList = textL (rs.take p) ∧ (i = bs.length + 1 → p = rs.length) ∧ Below w.heap.size w wr)
    case atStart => exact ⟨0, 0, ⟨#[]⟩, by omega, rfl, rfl, rfl, by omega, rfl, by omega, h2.out⟩
    case round =>
      obtain ⟨i, p, A, hg, rfl, rfl, rfl, hp, hA, hlast, hb⟩ := hrel
      replace hA := hid hA
      replace hlast := hid hlast
      replace hb := hid hb
      by_cases hle : i ≤ bs.length
      · by_cases hlt : i < bs.length
        · obtain ⟨x, hx⟩ : ∃ x, bs[i]? = some x := ⟨_, List.getElem?_eq_getElem hlt⟩
          have hx8 := wf_u8 (hwf.out x (List.mem_of_getElem? hx))
          obtain ⟨b, off, rfl, hbl, hcell⟩ : ∃ b off, a = some ⟨b, off, none⟩ ∧ b < w.heap.size ∧ ∀ (j : Nat) (x : Int), bs[j]? = some x → w.cell? ⟨b, off + j, none⟩ = some (.int .u8 x) := by
            rcases hcs.out with h | h
            · subst h; simp at hlt
            · exact h
          have c0 := (hb.out.cell (p := ⟨b, off + i, none⟩) hbl).trans (hcell i x hx)
          clear hcell hx
          obtain ⟨m, hm, hm7⟩ := and7 x hx8.1 hx8.2
          obtain ⟨q, hq⟩ : ∃ q : Nat, q = min (p + m) rs.length := ⟨_, rfl⟩
          have hmin : min ((p : Int) + (m : Int)) (rs.length : Int) = (q : Int) := by omega
          have hpq : p ≤ q := by omega
          have hqn : q ≤ rs.length := by omega
          clear hq
          have hcut' := hid (hcut.out p q hpq hqn)
          have hcnt' := hid (hcnt.out p q hpq hqn)
          have hst' := hid (hstep.out A p q hpq hA.out)
          have hpz := hpl.out p q hqn
          have hAz := hAl.out A p hA.out
          have hsub : ((q - p : Nat) : Int) = (q : Int) - (p : Int) := by omega
          rw [hsub] at hcnt'
          generalize (⟨(textL ((rs.drop p).take (q - p))).toArray⟩ : ByteArray) = T at *
          clear hsub
          go_wp2_with fail
          refine (hcut'.out _ (hT.out _ hb.out)).mono ?_
          rintro e w3 ⟨rfl, h3⟩
          replace h3 := hid (hb.out.step h3)
          go_wp2_with fail
          refine (hcnt'.out _ (hT.out _ h3.out)).mono ?_
          rintro e w4 ⟨rfl, h4⟩
          replace h4 := hid (h3.out.step h4)
          go_wp2_with fail
          go_roundg (bs.length + 1 - (i + 1))
          case measure => omega
          case rel => exact ⟨i + 1, q, A ++ T, by omega, rfl, rfl, by go_num, hqn, hst'.out, by omega, h4.out⟩
        · have hcut' := hid (hcut.out p rs.length hp (Nat.le_refl _))
          have hcnt' := hid (hcnt.out p rs.length hp (Nat.le_refl _))
          have hst' := hid (hstep.out A p rs.length hp hA.out)
          have hpz := hpl.out p rs.length (Nat.le_refl _)
          have hAz := hAl.out A p hA.out
          have hsub : ((rs.length - p : Nat) : Int) = (rs.length : Int) - (p : Int) := by omega
          rw [hsub] at hcnt'
          generalize (⟨(textL ((rs.drop p).take (rs.length - p))).toArray⟩ : ByteArray) = T at *
          clear hsub
          go_wp2_with fail
          refine (hcut'.out _ (hT.out _ hb.out)).mono ?_
          rintro e w3 ⟨rfl, h3⟩
          replace h3 := hid (hb.out.step h3)
          go_wp2_with fail
          refine (hcnt'.out _ (hT.out _ h3.out)).mono ?_
          rintro e w4 ⟨rfl, h4⟩
          replace h4 := hid (h3.out.step h4)
          go_wp2_with fail
          go_roundg (bs.length + 1 - (i + 1))
          case measure => omega
          case rel => exact ⟨i + 1, rs.length, A ++ T, by omega, rfl, rfl, by go_num, Nat.le_refl _, hst'.out, fun _ => rfl, h4.out⟩
      · have hp' := hlast.out (by omega)
        subst hp'
        have hAs := hfin.out A (by rw [hA.out, List.take_length])
        subst hAs
        go_wp2_with fail
        go_ret
        exact ⟨by simp, hb.out⟩
end Go.Proofs.YtdjegpmjhfbamaaDoor
