/-
  Walks: the law UtfQuotes.
-/
import Derived.Test.YtdjegpmjhfbamaaDoorRefU3
import Derived.Test.YtdjegpmjhfbamaaDoorUtf8
namespace Go.Proofs.YtdjegpmjhfbamaaDoor
open Go.RowKit Go.Proofs

set_option maxRecDepth 100000 in
set_option maxHeartbeats 8000000 in
theorem uquotes_calls (s q : ByteArray) (hs : s.size ≤ 17592186044416) (hq : q.size ≤ 17592186044416) (w : World) (hT : Tabs w) :
    Calls Tryd.prog 3 #[.string s, .string q] w fun e w' => e = .returned (.bool true) ∧ Below w.heap.size w w' := by
  have haw := hid (fun w hT => uawake_calls w hT)
  have hTs := hid (fun w' hb => Tabs.stays w w' hT hb)
  clear hT
  have hqu := hid (fun w hT => quote_calls s (by omega) w hT)
  have hun := hid (fun w hT => unquote_calls q (by omega) w hT)
  have hru := hid (fun w => runquote_calls q (by omega) w)
  have hrv := hid (fun w => rvalid_calls s (by omega) w)
  have hrq := hid (fun w => rquote_calls s (by omega) w)
  unfold UqQ at hun
  generalize unqP q.data.toList = R at *
  obtain ⟨E, l⟩ := R
  simp only at hun hru
  generalize (⟨l.toArray⟩ : ByteArray) = T at *
  cases hu : utf s with
  | false =>
    rw [hu] at hqu hrv
    rw [if_neg (by simp), if_neg (by simp)] at hqu
    clear hrq
    replace hu := hid hu
    go_enter Tryd.func3, Tryd.ntmps3
    go_wp2_with fail
    refine (hqu.out _ (hTs.out _ (Below.refl _ _))).mono ?_
    rintro e w1 ⟨rfl, h1⟩
    go_wp2_with fail
    refine (hun.out _ (hTs.out _ h1)).mono ?_
    rintro e w2 ⟨rfl, h2⟩
    replace h2 := h1.step h2
    go_wp2_with fail
    refine (hru.out _).mono ?_
    rintro e w3 ⟨rfl, h3⟩
    replace h3 := h2.step h3
    go_wp2_with fail
    refine (haw.out _ (hTs.out _ h3)).mono ?_
    rintro e w4 ⟨rfl, h4⟩
    replace h4 := h3.step h4
    go_wp2_with fail
    refine (hrv.out _).mono ?_
    rintro e w5 ⟨rfl, h5⟩
    go_wp2_with fail
    go_ret
    exact ⟨by simp, h4.step h5⟩
  | true =>
    rw [hu] at hqu hrv
    rw [if_pos rfl, if_pos rfl] at hqu
    generalize (⟨(quoteP s.data.toList).toArray⟩ : ByteArray) = X at *
    replace hu := hid hu
    go_enter Tryd.func3, Tryd.ntmps3
    go_wp2_with fail
    refine (hqu.out _ (hTs.out _ (Below.refl _ _))).mono ?_
    rintro e w1 ⟨rfl, h1⟩
    go_wp2_with fail
    refine (hun.out _ (hTs.out _ h1)).mono ?_
    rintro e w2 ⟨rfl, h2⟩
    replace h2 := h1.step h2
    go_wp2_with fail
    refine (hru.out _).mono ?_
    rintro e w3 ⟨rfl, h3⟩
    replace h3 := h2.step h3
    go_wp2_with fail
    refine (haw.out _ (hTs.out _ h3)).mono ?_
    rintro e w4 ⟨rfl, h4⟩
    replace h4 := h3.step h4
    go_wp2_with fail
    refine (hrv.out _).mono ?_
    rintro e w5 ⟨rfl, h5⟩
    replace h5 := h4.step h5
    go_wp2_with fail
    refine (hrq.out _).mono ?_
    rintro e w6 ⟨rfl, h6⟩
    go_wp2_with fail
    go_ret
    exact ⟨by simp, h5.step h6⟩
end Go.Proofs.YtdjegpmjhfbamaaDoor
