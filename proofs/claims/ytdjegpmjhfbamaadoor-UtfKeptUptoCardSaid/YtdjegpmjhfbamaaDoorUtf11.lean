/-
  Walk: the law UtfCuts.
-/
import Derived.Test.YtdjegpmjhfbamaaDoorUtf8
import Derived.Test.YtdjegpmjhfbamaaDoorRefU1
namespace Go.Proofs.YtdjegpmjhfbamaaDoor
open Go.RowKit Go.Proofs

theorem row_form {w : World} {B e n : Nat} {v : Value} {xs : List Value} (h : w.ownsRow B e 1 v n xs) : (v = .slice none 0 0 ∧ n = 0) ∨ ∃ g cap, v = .slice (some ⟨g, 0, none⟩) n cap := by
  rcases h.2 with h | ⟨g, cap, cur, h, _⟩
  · exact .inl h
  · exact .inr ⟨g, cap, h⟩

/-- The order of two texts, with the signs of '<' both ways. -/
theorem order_cases (a b : ByteArray) : (scmp a b = -1 ∧ Op.bytesLess a.toList b.toList = true ∧ Op.bytesLess b.toList a.toList = false ∧ (a.toList == b.toList) = false) ∨ (scmp a b = 0 ∧ Op.bytesLess a.toList b.toList = false ∧ Op.bytesLess b.toList a.toList = false ∧ (a.toList == b.toList) = true) ∨
    (scmp a b = 1 ∧ Op.bytesLess a.toList b.toList = false ∧ Op.bytesLess b.toList a.toList = true ∧ (a.toList == b.toList) = false) := by
  have he := @scmp_eqB a b
  have hne : scmp a b ≠ 0 → (a.toList == b.toList) = false := fun h => by
    cases hb : (a.toList == b.toList) with
    | false => rfl
    | true => exact absurd (he.2 hb) h
  have h := scmp_less a b
  have k := scmp_less b a
  have an := scmp_anti a b
  unfold blt at h k
  cases h1 : Op.bytesLess a.toList b.toList with
  | true =>
    rw [h1] at h k
    cases h2 : Op.bytesLess b.toList a.toList with
    | true => rw [h2] at k; simp at h k; omega
    | false => exact .inl ⟨by simpa using h, rfl, rfl, hne (by simp at h; omega)⟩
  | false =>
    rw [h1] at h k
    cases h2 : Op.bytesLess b.toList a.toList with
    | true => rw [h2] at h; exact .inr (.inr ⟨by simpa using h, rfl, rfl, hne (by simp at h; omega)⟩)
    | false => rw [h2] at h; exact .inr (.inl ⟨by simpa using h, rfl, rfl, he.1 (by simpa using h)⟩)

set_option maxRecDepth 100000 in
set_option maxHeartbeats 32000000 in
theorem ucuts_calls (a b : ByteArray) (hsa : a.size ≤ 34359738368) (hsb : b.size ≤ 34359738368) (f t : Int) (hf : -9223372036854775808 ≤ f ∧ f ≤ 9223372036854775807) (ht : -9223372036854775808 ≤ t ∧ t ≤ 9223372036854775807) (w : World) (hT : Tabs w) :
    Calls Tryd.prog 9 #[.string a, .string b, .int .i64 f, .int .i64 t] w fun e w' => e = .returned (.bool true) ∧ Below w.heap.size w w' := by
  have haw := hid (fun w hT => uawake_calls w hT)
  have hcmp := hid (fun w hT => compare_utf a b (by omega) (by omega) w hT)
  have hcut := hid (fun w hT => cut_calls a hsa f t hf ht w hT)
  have hra := hid (fun w => rrunes_calls a (by omega) w)
  have hrb := hid (fun w => rrunes_calls b (by omega) w)
  have hvala : Hid ((runesD a.data.toList).isSome = utf a) := runesD_valid _ _ rfl
  have hvalb : Hid ((runesD b.data.toList).isSome = utf b) := runesD_valid _ _ rfl
  have hll : Hid (a.data.toList.length = a.size) := by show _ = _; simp
  have hTs := hid (fun w' hb => Tabs.stays w w' hT hb)
  clear hT
  cases hrs : runesD a.data.toList with
  | none =>
    have hu : utf a = false := by rw [← hvala.out, hrs]; rfl
    rw [hu, if_neg (by simp), if_neg (by simp)] at hcmp
    unfold cutP at hcut
    rw [hrs] at hcut
    replace hrs := hid hrs
    clear hu
    go_enter Tryd.func9, Tryd.ntmps9
    go_wp2_with fail
    refine (hcmp.out _ (hTs.out _ (Below.refl _ _))).mono ?_
    rintro e w1 ⟨rfl, h1⟩
    go_wp2_with fail
    refine (hcut.out _ (hTs.out _ h1)).mono ?_
    rintro e w2 ⟨rfl, h2⟩
    replace h2 := h1.step h2
    go_wp2_with fail
    refine (hra.out _).mono ?_
    rintro e w3 ⟨v3, rfl, h3, _, hno⟩
    obtain rfl := hno hrs.out
    rw [hrs.out]
    replace h3 := h2.step h3
    clear hno
    go_wp2_with fail
    refine (hrb.out _).mono ?_
    rintro e w4 ⟨v4, rfl, h4, _, _⟩
    replace h4 := h3.step h4
    go_wp2_with fail
    refine (haw.out _ (hTs.out _ h4)).mono ?_
    rintro e w5 ⟨rfl, h5⟩
    go_wp2_with fail
    go_ret
    exact ⟨rfl, h4.step h5⟩
  | some rs =>
    have hu : utf a = true := by rw [← hvala.out, hrs]; rfl
    have hch := hid (runes_text hrs).2
    have hrl := runes_len hrs
    rw [hll.out] at hrl
    obtain ⟨C, hC⟩ : ∃ C : Int, C = (if utf a = true ∧ utf b = true then scmp a b else 0) := ⟨_, rfl⟩
    obtain ⟨E, hE⟩ : ∃ E : Int, E = (if utf a = true ∧ utf b = true then 0 else 11) := ⟨_, rfl⟩
    rw [← hC, ← hE] at hcmp
    obtain ⟨R, hR⟩ : ∃ R, R = cutP a f t := ⟨_, rfl⟩
    rw [← hR] at hcut
    unfold cutP at hR
    rw [hrs] at hR
    simp only at hR
    obtain ⟨F, hF⟩ : ∃ F : Bool, F = (runesD b.data.toList).isSome := ⟨_, rfl⟩
    have hFb : F = utf b := hF.trans hvalb.out
    rw [hu, ← hFb] at hC hE
    replace hF := hid hF
    have horder := order_cases a b
    generalize scmp a b = X at *
    replace hrs := hid hrs
    clear hu hFb
    have hall : (F = false ∧ C = 0 ∧ E = 11) ∨ (F = true ∧ C = X ∧ E = 0) := by
      cases F with
      | false => exact .inl ⟨rfl, by rw [hC, if_neg (by simp)], by rw [hE, if_neg (by simp)]⟩
      | true => exact .inr ⟨rfl, by rw [hC, if_pos ⟨rfl, rfl⟩], by rw [hE, if_pos ⟨rfl, rfl⟩]⟩
    clear hC hE
    by_cases hbad : f < 0 ∨ t < f ∨ (rs.length : Int) < t
    · rw [if_pos hbad] at hR
      subst hR
      have hb3 : f < 0 ∨ (¬ f < 0 ∧ t < f) ∨ (¬ f < 0 ∧ ¬ t < f ∧ (rs.length : Int) < t) := by omega
      clear hbad
      rcases horder with ⟨rfl, l1, l2, l3⟩ | ⟨rfl, l1, l2, l3⟩ | ⟨rfl, l1, l2, l3⟩ <;> rcases hall with ⟨rfl, rfl, rfl⟩ | ⟨rfl, rfl, rfl⟩ <;> rcases hb3 with b1 | ⟨b1, b2⟩ | ⟨b1, b2, b3⟩
      all_goals
        go_enter Tryd.func9, Tryd.ntmps9
        go_wp2_with fail
        refine (hcmp.out _ (hTs.out _ (Below.refl _ _))).mono ?_
        rintro e w1 ⟨rfl, h1⟩
        go_wp2_with fail
        refine (hcut.out _ (hTs.out _ h1)).mono ?_
        rintro e w2 ⟨rfl, h2⟩
        replace h2 := h1.step h2
        go_wp2_with fail
        refine (hra.out _).mono ?_
        rintro e w3 ⟨v3, rfl, h3, hyes, _⟩
        have hn : ∃ a' c', v3 = .slice a' rs.length c' := by
          rcases row_form (hyes rs hrs.out) with ⟨rfl, h0⟩ | ⟨g, cap, rfl⟩
          · exact ⟨none, 0, by rw [h0]⟩
          · exact ⟨_, _, rfl⟩
        obtain ⟨a', c', rfl⟩ := hn
        rw [hrs.out]
        replace h3 := h2.step h3
        clear hyes
        go_wp2_with fail
        refine (hrb.out _).mono ?_
        rintro e w4 ⟨v4, rfl, h4, _, _⟩
        rw [← hF.out]
        replace h4 := h3.step h4
        go_wp2_with fail
        refine (haw.out _ (hTs.out _ h4)).mono ?_
        rintro e w5 ⟨rfl, h5⟩
        go_wp2_with fail
        go_ret
        exact ⟨rfl, h4.step h5⟩
    · rw [if_neg hbad] at hR
      obtain ⟨i, rfl⟩ : ∃ i : Nat, f = i := Int.eq_ofNat_of_zero_le (by omega)
      obtain ⟨j, rfl⟩ : ∃ j : Nat, t = j := Int.eq_ofNat_of_zero_le (by omega)
      have hij : i ≤ j := by omega
      have hjl : j ≤ rs.length := by omega
      have hij' : (i : Int) ≤ (j : Int) := by omega
      have hjl' : (j : Int) ≤ (rs.length : Int) := by omega
      replace hR := hid hR
      have htx : Hid (∀ w a c g cap, w.ownsRow 0 21 1 (.slice (some ⟨g, 0, none⟩) rs.length cap) rs.length (rcells rs) → j - i ≤ c → c ≤ cap → (j - i = 0 ∨ a = some ⟨g, i, none⟩) → Calls Tryd.prog 28 #[.slice a (j - i) c] w fun e w' => e = .returned (.tuple #[.string R.1, .bool true]) ∧ Below w.heap.size w w') := fun w a c g cap hown h1 h2 ha => by
        have h1 := rtext_calls _ _ w (runesAt_row hown hch.out (i := i) (k := j - i) (a := a) (c := c) (by omega) h1 (by have := (row_cap hown).2; omega) ha) (by rw [nums_len, List.length_take, List.length_drop]; omega)
        have h2 := okR_nums (rs := (rs.drop i).take (j - i)) (fun v hv => hch.out v (List.mem_of_mem_drop (List.mem_of_mem_take hv)))
        rw [h2, if_pos rfl, textI_nums] at h1
        rw [hR.out]
        exact h1
      have htn : Hid (rs.length = 0 → ∀ w, Calls Tryd.prog 28 #[.slice none 0 0] w fun e w' => e = .returned (.tuple #[.string R.1, .bool true]) ∧ Below w.heap.size w w') := fun h0 w => by
        have h1 := rtext_calls [] (.slice none 0 0) w ⟨none, 0, rfl, Nat.le_refl _, by simp, by simp, .inl rfl⟩ (by simp)
        rw [hR.out, List.eq_nil_of_length_eq_zero h0]
        simpa [okR, textI, textL] using h1
      have hR2 : Hid (R.2 = 0) := by show _ = _; rw [hR.out]
      obtain ⟨R1, R2⟩ := R
      simp only at hR2 htx htn hcut
      obtain rfl : R2 = 0 := hR2.out
      replace hR := hid hR.out
      clear hbad hf ht hR2
      rcases horder with ⟨rfl, l1, l2, l3⟩ | ⟨rfl, l1, l2, l3⟩ | ⟨rfl, l1, l2, l3⟩ <;> rcases hall with ⟨rfl, rfl, rfl⟩ | ⟨rfl, rfl, rfl⟩
      all_goals
        go_enter Tryd.func9, Tryd.ntmps9
        go_wp2_with fail
        refine (hcmp.out _ (hTs.out _ (Below.refl _ _))).mono ?_
        rintro e w1 ⟨rfl, h1⟩
        go_wp2_with fail
        refine (hcut.out _ (hTs.out _ h1)).mono ?_
        rintro e w2 ⟨rfl, h2⟩
        replace h2 := h1.step h2
        go_wp2_with fail
        refine (hra.out _).mono ?_
        rintro e w3 ⟨v3, rfl, h3, hyes, _⟩
        have hown := hid (hyes rs hrs.out)
        rw [hrs.out]
        replace h3 := h2.step h3
        clear hyes
        have hk4 : Hid (∀ w', Below w3.heap.size w3 w' → w'.ownsRow 0 21 1 v3 rs.length (rcells rs)) := fun w' hb => by
          have := hown.out.kept (row := none) (w' := w') ⟨hb.os, hb.tape, hb.output, hb.size, fun k hk _ => hb.block k hk⟩ (by cases v3.ownBlock <;> simp)
          refine ⟨this.1, ?_⟩
          rcases this.2 with h0 | ⟨g, cap, cur, hv, hb, rest⟩
          · exact .inl h0
          · exact .inr ⟨g, cap, cur, hv, Nat.zero_le _, rest⟩
        rcases row_form hown.out with ⟨rfl, h0⟩ | ⟨g, cap, rfl⟩
        · obtain rfl : i = 0 := by omega
          obtain rfl : j = 0 := by omega
          have htn' := hid (htn.out h0)
          clear htn htx h0
          go_wp2_with fail
          refine (hrb.out _).mono ?_
          rintro e w4 ⟨v4, rfl, h4, _, _⟩
          rw [← hF.out]
          replace h4 := h3.step h4
          go_wp2_with fail
          refine (haw.out _ (hTs.out _ h4)).mono ?_
          rintro e w5 ⟨rfl, h5⟩
          replace h5 := h4.step h5
          go_wp2_with fail
          refine (htn'.out _).mono ?_
          rintro e w6 ⟨rfl, h6⟩
          go_wp2_with fail
          go_ret
          exact ⟨by simp, h5.step h6⟩
        · have hcap := row_cap hown.out
          have hjc : (j : Int) ≤ (cap : Int) := by omega
          by_cases hci : cap = i
          · subst hci
            obtain rfl : j = cap := by omega
            have htx0 : Hid (∀ w', Below w3.heap.size w3 w' → Calls Tryd.prog 28 #[.slice (some ⟨g, 0, none⟩) 0 0] w' fun e w'' => e = .returned (.tuple #[.string R1, .bool true]) ∧ Below w'.heap.size w' w'') := fun w' hb => by
              have := htx.out w' (some ⟨g, 0, none⟩) 0 g j (hk4.out w' hb) (by omega) (by omega) (.inl (by omega))
              rw [Nat.sub_self] at this
              exact this
            clear htn htx
            go_wp2_with fail
            refine (hrb.out _).mono ?_
            rintro e w4 ⟨v4, rfl, h4, _, _⟩
            rw [← hF.out]
            replace hk5 := hid h4
            replace h4 := h3.step h4
            go_wp2_with fail
            refine (haw.out _ (hTs.out _ h4)).mono ?_
            rintro e w5 ⟨rfl, h5⟩
            replace hk5 := hid (hk5.out.step h5)
            replace h5 := h4.step h5
            go_wp2_with fail
            refine (htx0.out _ hk5.out).mono ?_
            rintro e w6 ⟨rfl, h6⟩
            go_wp2_with fail
            go_ret
            exact ⟨by simp, h5.step h6⟩
          · have hci' : i < cap := by omega
            have hpos : ¬ cap - i = 0 := by omega
            have htx0 : Hid (∀ w', Below w3.heap.size w3 w' → Calls Tryd.prog 28 #[.slice (some ⟨g, i, none⟩) (j - i) (cap - i)] w' fun e w'' => e = .returned (.tuple #[.string R1, .bool true]) ∧ Below w'.heap.size w' w'') := fun w' hb =>
              htx.out w' (some ⟨g, i, none⟩) (cap - i) g cap (hk4.out w' hb) (by omega) (by omega) (.inr rfl)
            clear htn htx hci
            go_wp2_with fail
            refine (hrb.out _).mono ?_
            rintro e w4 ⟨v4, rfl, h4, _, _⟩
            rw [← hF.out]
            replace hk5 := hid h4
            replace h4 := h3.step h4
            go_wp2_with fail
            refine (haw.out _ (hTs.out _ h4)).mono ?_
            rintro e w5 ⟨rfl, h5⟩
            replace hk5 := hid (hk5.out.step h5)
            replace h5 := h4.step h5
            go_wp2_with fail
            refine (htx0.out _ hk5.out).mono ?_
            rintro e w6 ⟨rfl, h6⟩
            go_wp2_with fail
            go_ret
            exact ⟨by simp, h5.step h6⟩
end Go.Proofs.YtdjegpmjhfbamaaDoor
