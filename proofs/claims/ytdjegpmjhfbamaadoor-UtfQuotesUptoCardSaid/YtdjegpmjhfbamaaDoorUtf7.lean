/-
  Walks: tidemarklaw1's awake; the law UtfOrders.
-/
import Derived.Test.YtdjegpmjhfbamaaDoorUtf6
import Derived.Test.YtdjegpmjhfbamaaDoorOrd0
namespace Go.Proofs.YtdjegpmjhfbamaaDoor
open Go.RowKit Go.Proofs

set_option maxRecDepth 100000 in
theorem uawake_calls (w : World) (hT : Tabs w) : Calls Tryd.prog 20 #[] w fun e w' => e = .returned (.bool true) ∧ Below w.heap.size w w' := by
  have hT := hid (fun w' hb => Tabs.stays w w' hT hb)
  have hq : Hid (∀ w, Tabs w → Calls Tryd.prog 17 #[.string ⟨#[97, 34, 10]⟩] w fun e w' => e = .returned (.tuple #[.string ⟨#[34, 97, 92, 34, 92, 110, 34]⟩, .int .i64 0]) ∧ Below w.heap.size w w') := fun w hT => by
    have := quote_calls ⟨#[97, 34, 10]⟩ (by decide) w hT
    rw [if_pos (by rfl), if_pos (by rfl)] at this
    exact this
  have hu : Hid (∀ w, Tabs w → Calls Tryd.prog 18 #[.string ⟨#[34, 97, 92, 34, 92, 110, 34]⟩] w fun e w' => e = .returned (.tuple #[.string ⟨#[97, 34, 10]⟩, .int .i64 0]) ∧ Below w.heap.size w w') := fun w hT => by
    have := unquote_calls ⟨#[34, 97, 92, 34, 92, 110, 34]⟩ (by decide) w hT
    exact this
  go_enter Tryd.func20, Tryd.ntmps20
  go_wp2_with fail
  refine (hq.out _ (hT.out _ (Below.refl _ _))).mono ?_
  rintro e w1 ⟨rfl, h1⟩
  go_wp2_with fail
  refine (hu.out _ (hT.out _ h1)).mono ?_
  rintro e w2 ⟨rfl, h2⟩
  go_wp2_with fail
  go_ret
  exact ⟨rfl, h1.step h2⟩

theorem scmp_lt {a b : ByteArray} : (scmp a b < 0) ↔ Op.bytesLess a.toList b.toList = true := by
  rw [scmp_less]
  unfold blt
  cases h : Op.bytesLess a.toList b.toList with
  | true => simp
  | false => cases Op.bytesLess b.toList a.toList <;> simp
theorem scmp_eqB {a b : ByteArray} : (scmp a b = 0) ↔ (a.toList == b.toList) = true := by
  rw [scmp_zero]
  constructor
  · rintro rfl; simp
  · intro h
    rw [beq_iff_eq] at h
    rw [ByteArray.toList_eq, ByteArray.toList_eq] at h
    cases a; cases b
    simp only [ByteArray.mk.injEq]
    exact Array.toList_inj.1 h
theorem scmp_range (a b : ByteArray) : scmp a b = -1 ∨ scmp a b = 0 ∨ scmp a b = 1 := by
  rw [scmp_less]
  split
  · simp
  · split <;> simp

set_option maxRecDepth 100000 in
set_option maxHeartbeats 4000000 in
theorem uorders_calls (a b c : ByteArray) (ha : a.size ≤ 140737488355328) (hb : b.size ≤ 140737488355328) (hc : c.size ≤ 140737488355328) (w : World) (hT : Tabs w) :
    Calls Tryd.prog 4 #[.string a, .string b, .string c] w fun e w' => e = .returned (.bool true) ∧ Below w.heap.size w w' := by
  have haw := hid (uawake_calls w hT)
  have hT := hid (fun w' hb => Tabs.stays w w' hT hb)
  have gab := hid (fun w hT => compare_utf a b ha hb w hT)
  have gba := hid (fun w hT => compare_utf b a hb ha w hT)
  have gbc := hid (fun w hT => compare_utf b c hb hc w hT)
  have gac := hid (fun w hT => compare_utf a c ha hc w hT)
  have va := hid (fun w hT => valid_calls a w ha hT)
  have vb := hid (fun w hT => valid_calls b w hb hT)
  have vc := hid (fun w hT => valid_calls c w hc hT)
  by_cases hbad : utf a = true ∧ utf b = true ∧ utf c = true
  case neg =>
    obtain ⟨xab, hxab⟩ : ∃ x : Int, x = (if utf a = true ∧ utf b = true then scmp a b else 0) := ⟨_, rfl⟩
    obtain ⟨xba, hxba⟩ : ∃ x : Int, x = (if utf b = true ∧ utf a = true then scmp b a else 0) := ⟨_, rfl⟩
    obtain ⟨xbc, hxbc⟩ : ∃ x : Int, x = (if utf b = true ∧ utf c = true then scmp b c else 0) := ⟨_, rfl⟩
    obtain ⟨xac, hxac⟩ : ∃ x : Int, x = (if utf a = true ∧ utf c = true then scmp a c else 0) := ⟨_, rfl⟩
    obtain ⟨eab, heab⟩ : ∃ x : Int, x = (if utf a = true ∧ utf b = true then 0 else 11) := ⟨_, rfl⟩
    obtain ⟨eba, heba⟩ : ∃ x : Int, x = (if utf b = true ∧ utf a = true then 0 else 11) := ⟨_, rfl⟩
    obtain ⟨ebc, hebc⟩ : ∃ x : Int, x = (if utf b = true ∧ utf c = true then 0 else 11) := ⟨_, rfl⟩
    obtain ⟨eac, heac⟩ : ∃ x : Int, x = (if utf a = true ∧ utf c = true then 0 else 11) := ⟨_, rfl⟩
    rw [← hxab, ← heab] at gab
    rw [← hxba, ← heba] at gba
    rw [← hxbc, ← hebc] at gbc
    rw [← hxac, ← heac] at gac
    clear hxab hxba hxbc hxac
    cases hua : utf a with
    | false =>
      rw [hua] at va
      have b1 : (eab != 0) = true := by rw [heab, hua]; rfl
      clear heab heba hebc heac hbad hua
      go_enter Tryd.func4, Tryd.ntmps4
      go_wp2_with fail
      refine haw.out.mono ?_
      rintro e w1 ⟨rfl, h1⟩
      go_wp2_with fail
      refine (gab.out _ (hT.out _ h1)).mono ?_
      rintro e w2 ⟨rfl, h2⟩
      replace h2 := h1.step h2
      go_wp2_with fail
      refine (gba.out _ (hT.out _ h2)).mono ?_
      rintro e w3 ⟨rfl, h3⟩
      replace h3 := h2.step h3
      go_wp2_with fail
      refine (gbc.out _ (hT.out _ h3)).mono ?_
      rintro e w4 ⟨rfl, h4⟩
      replace h4 := h3.step h4
      go_wp2_with fail
      refine (gac.out _ (hT.out _ h4)).mono ?_
      rintro e w5 ⟨rfl, h5⟩
      replace h5 := h4.step h5
      go_wp2_with fail
      refine (va.out _ (hT.out _ h5)).mono ?_
      rintro e w6 ⟨rfl, h6⟩
      go_wp2_with fail
      go_ret
      exact ⟨rfl, h5.step h6⟩
    | true =>
      rw [hua] at va
      cases hub : utf b with
      | false =>
        rw [hub] at vb
        have b1 : (eab != 0) = true := by rw [heab, hub, if_neg (by simp)]; rfl
        clear heab heba hebc heac hbad hua hub
        go_enter Tryd.func4, Tryd.ntmps4
        go_wp2_with fail
        refine haw.out.mono ?_
        rintro e w1 ⟨rfl, h1⟩
        go_wp2_with fail
        refine (gab.out _ (hT.out _ h1)).mono ?_
        rintro e w2 ⟨rfl, h2⟩
        replace h2 := h1.step h2
        go_wp2_with fail
        refine (gba.out _ (hT.out _ h2)).mono ?_
        rintro e w3 ⟨rfl, h3⟩
        replace h3 := h2.step h3
        go_wp2_with fail
        refine (gbc.out _ (hT.out _ h3)).mono ?_
        rintro e w4 ⟨rfl, h4⟩
        replace h4 := h3.step h4
        go_wp2_with fail
        refine (gac.out _ (hT.out _ h4)).mono ?_
        rintro e w5 ⟨rfl, h5⟩
        replace h5 := h4.step h5
        go_wp2_with fail
        refine (va.out _ (hT.out _ h5)).mono ?_
        rintro e w6 ⟨rfl, h6⟩
        replace h6 := h5.step h6
        go_wp2_with fail
        refine (vb.out _ (hT.out _ h6)).mono ?_
        rintro e w7 ⟨rfl, h7⟩
        go_wp2_with fail
        go_ret
        exact ⟨rfl, h6.step h7⟩
      | true =>
        rw [hub] at vb
        have huc : utf c = false := by
          cases h : utf c with
          | false => rfl
          | true => exact absurd ⟨hua, hub, h⟩ hbad
        rw [huc] at vc
        have b1 : (eab != 0) = false := by rw [heab, hua, hub, if_pos ⟨rfl, rfl⟩]; rfl
        have b2 : (eba != 0) = false := by rw [heba, hua, hub, if_pos ⟨rfl, rfl⟩]; rfl
        have b3 : (ebc != 0) = true := by rw [hebc, huc, if_neg (by simp)]; rfl
        clear heab heba hebc heac hbad hua hub huc
        go_enter Tryd.func4, Tryd.ntmps4
        go_wp2_with fail
        refine haw.out.mono ?_
        rintro e w1 ⟨rfl, h1⟩
        go_wp2_with fail
        refine (gab.out _ (hT.out _ h1)).mono ?_
        rintro e w2 ⟨rfl, h2⟩
        replace h2 := h1.step h2
        go_wp2_with fail
        refine (gba.out _ (hT.out _ h2)).mono ?_
        rintro e w3 ⟨rfl, h3⟩
        replace h3 := h2.step h3
        go_wp2_with fail
        refine (gbc.out _ (hT.out _ h3)).mono ?_
        rintro e w4 ⟨rfl, h4⟩
        replace h4 := h3.step h4
        go_wp2_with fail
        refine (gac.out _ (hT.out _ h4)).mono ?_
        rintro e w5 ⟨rfl, h5⟩
        replace h5 := h4.step h5
        go_wp2_with fail
        refine (va.out _ (hT.out _ h5)).mono ?_
        rintro e w6 ⟨rfl, h6⟩
        replace h6 := h5.step h6
        go_wp2_with fail
        refine (vb.out _ (hT.out _ h6)).mono ?_
        rintro e w7 ⟨rfl, h7⟩
        replace h7 := h6.step h7
        go_wp2_with fail
        refine (vc.out _ (hT.out _ h7)).mono ?_
        rintro e w8 ⟨rfl, h8⟩
        go_wp2_with fail
        go_ret
        exact ⟨rfl, h7.step h8⟩
  obtain ⟨hua, hub, huc⟩ := hbad
  have p1 := scmp_range a b
  have p2 := @scmp_lt a b
  have p3 := @scmp_eqB a b
  have p4 := fit_scmp a b c
  rw [if_pos ⟨hua, hub⟩, if_pos ⟨hua, hub⟩] at gab
  rw [if_pos ⟨hub, hua⟩, if_pos ⟨hub, hua⟩, scmp_anti] at gba
  rw [if_pos ⟨hub, huc⟩, if_pos ⟨hub, huc⟩] at gbc
  rw [if_pos ⟨hua, huc⟩, if_pos ⟨hua, huc⟩] at gac
  generalize scmp a b = X at *
  generalize scmp b c = Z at *
  generalize scmp a c = Y at *
  clear hua hub huc
  obtain ⟨le, hle⟩ : ∃ x, x = Op.bytesLess a.toList b.toList := ⟨_, rfl⟩
  obtain ⟨be, hbe⟩ : ∃ x, x = (a.toList == b.toList) := ⟨_, rfl⟩
  rw [← hle] at p2
  rw [← hbe] at p3
  have q4 : ¬ (0 < X) → ¬ (0 < Z) → ¬ (0 < Y) := fun h k => by have := (p4 (by omega) (by omega)).1; omega
  replace p4 := hid p4
  have hall : (X = -1 ∧ le = true ∧ be = false) ∨ (X = 0 ∧ le = false ∧ be = true) ∨ (X = 1 ∧ le = false ∧ be = false) := by
    have h1 : le = decide (X < 0) := by cases le <;> simp at p2 ⊢ <;> exact p2
    have h2 : be = decide (X = 0) := by cases be <;> simp at p3 ⊢ <;> exact p3
    rcases p1 with rfl | rfl | rfl
    · exact .inl ⟨rfl, h1, h2⟩
    · exact .inr (.inl ⟨rfl, h1, h2⟩)
    · exact .inr (.inr ⟨rfl, h1, h2⟩)
  clear p1 p2 p3
  rcases hall with ⟨rfl, rfl, rfl⟩ | ⟨rfl, rfl, rfl⟩ | ⟨rfl, rfl, rfl⟩
  all_goals
    replace hle := hle.symm
    replace hbe := hbe.symm
    by_cases hz : 0 < Z
    all_goals
      have hy : Hid (¬ 0 < Z → ¬ (0 : Int) < 1 → ¬ 0 < Y) := fun h k => by first | exact q4 k h | omega
      clear q4
      go_enter Tryd.func4, Tryd.ntmps4
      go_wp2_with fail
      refine haw.out.mono ?_
      rintro e w1 ⟨rfl, h1⟩
      go_wp2_with fail
      refine (gab.out _ (hT.out _ h1)).mono ?_
      rintro e w2 ⟨rfl, h2⟩
      replace h2 := h1.step h2
      go_wp2_with fail
      refine (gba.out _ (hT.out _ h2)).mono ?_
      rintro e w3 ⟨rfl, h3⟩
      replace h3 := h2.step h3
      go_wp2_with fail
      refine (gbc.out _ (hT.out _ h3)).mono ?_
      rintro e w4 ⟨rfl, h4⟩
      replace h4 := h3.step h4
      go_wp2_with fail
      refine (gac.out _ (hT.out _ h4)).mono ?_
      rintro e w5 ⟨rfl, h5⟩
      replace h5 := h4.step h5
      go_wp2_with fail
      go_ret
      have hp := p4.out
      unfold Fit at hp
      refine ⟨?_, h5⟩
      first | rfl | (simp; omega) | simp
end Go.Proofs.YtdjegpmjhfbamaaDoor
