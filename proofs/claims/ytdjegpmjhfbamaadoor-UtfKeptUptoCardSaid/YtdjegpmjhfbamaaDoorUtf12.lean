/-
  Walks: tidemarklaw1's same (of the same characters); the law UtfRunes.
-/
import Derived.Test.YtdjegpmjhfbamaaDoorUtf11
import Derived.Test.YtdjegpmjhfbamaaDoorQuiet
import Derived.Deep.CutBlock
import Derived.Deep.CutRange
namespace Go.Proofs.YtdjegpmjhfbamaaDoor
open Go.RowKit Go.Proofs

theorem runesAt_own {w : World} {B e : Nat} {rs : List Nat} {v : Value} (h : w.ownsRow B e 1 v rs.length (rcells rs)) (hc : ∀ v ∈ rs, Ch v) : RunesAt w (nums rs) v := by
  rcases row_form h with ⟨rfl, h0⟩ | ⟨g, cap, rfl⟩
  · have := List.eq_nil_of_length_eq_zero h0
    subst this
    exact ⟨none, 0, rfl, Nat.le_refl _, by simp, by simp [nums], .inl rfl⟩
  · have := runesAt_row h hc (i := 0) (k := rs.length) (a := some ⟨g, 0, none⟩) (c := cap) (by omega) (row_cap h).1 (row_cap h).2 (.inr rfl)
    rwa [List.drop_zero, List.take_length] at this

set_option maxRecDepth 100000 in
set_option maxHeartbeats 4000000 in
theorem usame_calls (rs : List Int) (v v' : Value) (w : World) (hv : RunesAt w rs v) (hv' : RunesAt w rs v') : Calls Tryd.prog 29 #[v, v'] w fun e w' => e = .returned (.bool true) ∧ Below w.heap.size w w' := by
  obtain ⟨a, cap, rfl, hc1, hc2, _, hcs⟩ := hv
  obtain ⟨a', cap', rfl, hc1', hc2', _, hcs'⟩ := hv'
  replace hcs := hid hcs
  replace hcs' := hid hcs'
  go_enter Tryd.func29, Tryd.ntmps29
  go_wp2_with fail
  go_loopg [5] rs.length (fun g i wr => ∃ j : Nat, g + j = rs.length ∧ i = .int .i64 j ∧ Below w.heap.size w wr)
  case atStart => exact ⟨0, by omega, rfl, Below.refl _ _⟩
  case round =>
    obtain ⟨j, hj, rfl, hb⟩ := hrel
    by_cases hlt : j < rs.length
    · obtain ⟨x, hx⟩ : ∃ x, rs[j]? = some x := ⟨_, List.getElem?_eq_getElem hlt⟩
      obtain ⟨b, off, rfl, hbl, hcell⟩ : ∃ b off, a = some ⟨b, off, none⟩ ∧ b < w.heap.size ∧ ∀ (j : Nat) (x : Int), rs[j]? = some x → w.cell? ⟨b, off + j, none⟩ = some (.int .i32 x) := by
        rcases hcs.out with h | h
        · subst h; simp at hlt
        · exact h
      obtain ⟨b', off', rfl, hbl', hcell'⟩ : ∃ b off, a' = some ⟨b, off, none⟩ ∧ b < w.heap.size ∧ ∀ (j : Nat) (x : Int), rs[j]? = some x → w.cell? ⟨b, off + j, none⟩ = some (.int .i32 x) := by
        rcases hcs'.out with h | h
        · subst h; simp at hlt
        · exact h
      have c0 := (hb.cell (p := ⟨b, off + j, none⟩) hbl).trans (hcell j x hx)
      have c1 := (hb.cell (p := ⟨b', off' + j, none⟩) hbl').trans (hcell' j x hx)
      have p1 : (0 : Int) ≤ (j : Int) := by omega
      have p2 : (j : Int) < (rs.length : Int) := by omega
      clear hcell hcell' hx
      go_upto_region 6 with fail
      replace c0 := Later.cell c0
      replace c1 := Later.cell c1
      refine wp_later (by kernel_rfl) (by kernel_rfl) ?_
      repeat (go_big_quiet_step (fail))
      refine wpQuiet_nil ?_
      intro _ hw'
      obtain ⟨p, hp⟩ := hw'
      subst hp
      clear c0 c1
      go_wp2_with fail
      go_roundg (rs.length - (j + 1))
      case measure => omega
      case rel => exact ⟨j + 1, by omega, by go_num, hb.step p.h⟩
    · go_wp2_with fail
      go_ret
      exact ⟨rfl, hb⟩

set_option maxRecDepth 100000 in
set_option maxHeartbeats 16000000 in
theorem urunes_calls (s : ByteArray) (hs : s.size ≤ 34359738368) (l : List Int) (hl : l.length ≤ 34359738368) (v : Value) (w : World) (hv : RunesAt w l v) (hT : Tabs w) :
    Calls Tryd.prog 7 #[.string s, v] w fun e w' => e = .returned (.bool true) ∧ Below w.heap.size w w' := by
  have haw := hid (fun w hT => uawake_calls w hT)
  have hTs := hid (fun w' hb => Tabs.stays w w' hT hb)
  clear hT
  have hv0 := hid hv
  have hr := hid (fun w hT => runes_calls s (by omega) w hT)
  have hc := hid (fun w hT => count_calls_utf s (by omega) w hT)
  have hrr := hid (fun w => rrunes_calls s (by omega) w)
  have hva := hid (fun w hT => valid_calls s w (by omega) hT)
  have ht := hid (fun w hv => utext_calls l v w hv hl)
  have htr := hid (fun w hv => rtext_calls l v w hv hl)
  have hval : Hid ((runesD s.data.toList).isSome = utf s) := runesD_valid _ _ rfl
  have hsm := hid (fun rs v v' w h h' => usame_calls rs v v' w h h')
  obtain ⟨X, hX⟩ : ∃ X : ByteArray, X = (if okR l = true then ⟨(textI l).toArray⟩ else ⟨#[]⟩) := ⟨_, rfl⟩
  obtain ⟨E, hE⟩ : ∃ E : Int, E = (if okR l = true then 0 else 11) := ⟨_, rfl⟩
  rw [← hX, ← hE] at ht
  rw [← hX] at htr
  have hall : (okR l = false ∧ X = ⟨#[]⟩ ∧ E = 11) ∨ (okR l = true ∧ E = 0) := by
    cases h : okR l with
    | false => exact .inl ⟨rfl, by rw [hX, h, if_neg (by simp)], by rw [hE, h, if_neg (by simp)]⟩
    | true => exact .inr ⟨rfl, by rw [hE, h, if_pos rfl]⟩
  generalize okR l = O at *
  clear hX hE hv
  cases hrs : runesD s.data.toList with
  | none =>
    have hu : utf s = false := by rw [← hval.out, hrs]; rfl
    rw [hu, if_neg (by simp), hrs] at hc
    rw [hu] at hva
    have hc' : Hid (∀ w, Tabs w → Calls Tryd.prog 30 #[.string s] w fun e w' => e = .returned (.tuple #[.int .i64 0, .int .i64 11]) ∧ Below w.heap.size w w') := hc
    clear hc
    replace hrs := hid hrs
    replace hu := hid hu
    rcases hall with ⟨rfl, rfl, rfl⟩ | ⟨rfl, rfl⟩
    all_goals
      go_enter Tryd.func7, Tryd.ntmps7
      go_wp2_with fail
      refine (hr.out _ (hTs.out _ (Below.refl _ _))).mono ?_
      rintro e w1 ⟨a, n, cap, rfl, h1, _, hno⟩
      obtain ⟨rfl, rfl, rfl⟩ := hno hrs.out
      rw [hu.out]
      clear hno
      go_wp2_with fail
      refine (hc'.out _ (hTs.out _ h1)).mono ?_
      rintro e w2 ⟨rfl, h2⟩
      replace h2 := h1.step h2
      go_wp2_with fail
      refine (ht.out _ (hv0.out.later h2)).mono ?_
      rintro e w3 ⟨rfl, h3⟩
      replace h3 := h2.step h3
      go_wp2_with fail
      refine (hrr.out _).mono ?_
      rintro e w4 ⟨v4, rfl, h4, _, hno⟩
      obtain rfl := hno hrs.out
      rw [hrs.out]
      replace h4 := h3.step h4
      clear hno
      go_wp2_with fail
      refine (haw.out _ (hTs.out _ h4)).mono ?_
      rintro e w5 ⟨rfl, h5⟩
      replace h5 := h4.step h5
      go_wp2_with fail
      refine (hva.out _ (hTs.out _ h5)).mono ?_
      rintro e w6 ⟨rfl, h6⟩
      replace h6 := h5.step h6
      go_wp2_with fail
      refine (htr.out _ (hv0.out.later h6)).mono ?_
      rintro e w7 ⟨rfl, h7⟩
      go_wp2_with fail
      go_ret
      exact ⟨by simp, h6.step h7⟩
  | some rs =>
    have hu : utf s = true := by rw [← hval.out, hrs]; rfl
    have hch := hid (runes_text hrs).2
    rw [hu, if_pos rfl, hrs] at hc
    rw [hu] at hva
    have hc' : Hid (∀ w, Tabs w → Calls Tryd.prog 30 #[.string s] w fun e w' => e = .returned (.tuple #[.int .i64 (rs.length : Nat), .int .i64 0]) ∧ Below w.heap.size w w') := hc
    clear hc
    replace hrs := hid hrs
    replace hu := hid hu
    rcases hall with ⟨rfl, rfl, rfl⟩ | ⟨rfl, rfl⟩
    all_goals
      go_enter Tryd.func7, Tryd.ntmps7
      go_wp2_with fail
      refine (hr.out _ (hTs.out _ (Below.refl _ _))).mono ?_
      rintro e w1 ⟨a, n, cap, rfl, h1, hyes, _⟩
      obtain ⟨rfl, hown, _⟩ := hyes rs hrs.out
      have hA := hid (runesAt_own hown hch.out)
      rw [hu.out]
      clear hyes hown
      go_wp2_with fail
      refine (hc'.out _ (hTs.out _ h1)).mono ?_
      rintro e w2 ⟨rfl, h2⟩
      replace hA := hid (hA.out.later h2)
      replace h2 := h1.step h2
      go_wp2_with fail
      refine (ht.out _ (hv0.out.later h2)).mono ?_
      rintro e w3 ⟨rfl, h3⟩
      replace hA := hid (hA.out.later h3)
      replace h3 := h2.step h3
      go_wp2_with fail
      refine (hrr.out _).mono ?_
      rintro e w4 ⟨v4, rfl, h4, hyes, _⟩
      have hB := hid (runesAt_own (hyes rs hrs.out) hch.out)
      replace hA := hid (hA.out.later h4)
      have hn : ∃ a' c', v4 = .slice a' rs.length c' := by
        rcases row_form (hyes rs hrs.out) with ⟨rfl, h0⟩ | ⟨g, cap, rfl⟩
        · exact ⟨none, 0, by rw [h0]⟩
        · exact ⟨_, _, rfl⟩
      obtain ⟨a', c', rfl⟩ := hn
      rw [hrs.out]
      replace h4 := h3.step h4
      clear hyes
      go_wp2_with fail
      refine (haw.out _ (hTs.out _ h4)).mono ?_
      rintro e w5 ⟨rfl, h5⟩
      replace hA := hid (hA.out.later h5)
      replace hB := hid (hB.out.later h5)
      replace h5 := h4.step h5
      go_wp2_with fail
      refine (hva.out _ (hTs.out _ h5)).mono ?_
      rintro e w6 ⟨rfl, h6⟩
      replace hA := hid (hA.out.later h6)
      replace hB := hid (hB.out.later h6)
      replace h6 := h5.step h6
      go_wp2_with fail
      refine (hsm.out _ _ _ _ hA.out hB.out).mono ?_
      rintro e w7 ⟨rfl, h7⟩
      replace h7 := h6.step h7
      go_wp2_with fail
      refine (htr.out _ (hv0.out.later h7)).mono ?_
      rintro e w8 ⟨rfl, h8⟩
      go_wp2_with fail
      go_ret
      exact ⟨by simp, h7.step h8⟩
end Go.Proofs.YtdjegpmjhfbamaaDoor
