/-
  Walks: utf.Valid, value.spelled, few: where the tables of unicode/utf8 lie as their text lays them.
-/
import Derived.Test.YtdjegpmjhfbamaaDoorVal5
import Derived.Test.YtdjegpmjhfbamaaDoorShelfA
import Derived.Outline
namespace Go.Proofs.YtdjegpmjhfbamaaDoor
open Go.RowKit Go.Proofs

/-- The tables of unicode/utf8 lie as they are laid. -/
def Tabs (w : World) : Prop := Lib.Utf8Tabs 0 1 w
theorem Tabs.stays : Stays Tabs := fun _ _ h hb => Utf8Tabs_below h hb

theorem valid_calls (s : ByteArray) (w : World) (hs : s.size ≤ 140737488355328) (hT : Tabs w) :
    Calls Tryd.prog 24 #[.string s] w fun e w' => e = .returned (.bool (utf s)) ∧ Below w.heap.size w w' := by
  have hc := Tryd.utf8_ValidString s w (by omega) hT
  unfold utf
  generalize Lib.validD s.data.toList = R at *
  clear hT
  go_enter Tryd.func24, Tryd.ntmps24
  go_wp2_with fail
  refine hc.mono ?_
  rintro e w1 ⟨rfl, hb⟩
  go_wp2_with fail
  go_ret
  exact ⟨rfl, hb⟩

theorem spelled1_calls : TellsF Tabs 109 (fun nm => !utf nm) := by
  intro nm V w cs hT hn hV
  obtain ⟨k, n, s, l, fn, fv⟩ := V
  obtain ⟨la, lc, fa, fc, rfl, _⟩ := hV.inv
  have hc := valid_calls nm _ hn (Tabs.stays w _ hT (below_new w (.cells #[.string nm, .int .i64 k, .int .i64 n, .string s, .slice la l.length lc, .slice fa fv.length fc] 77)))
  show Calls _ _ _ _ fun e w' => e = .returned (.bool (!utf nm)) ∧ _
  generalize utf nm = R at *
  clear hT
  go_enter Tryd.func109, Tryd.ntmps109
  go_wp2_with fail
  refine hc.mono ?_
  rintro e w1 ⟨rfl, hb⟩
  go_wp2_with fail
  go_ret
  exact ⟨rfl, (below_new _ _).step hb⟩

theorem size_list (s : ByteArray) : s.toList.length = s.size := by rw [Lib.toList_data, Lib.size_eq]
theorem empty_iff (s : ByteArray) : s.toList = [] ↔ s.size = 0 := by rw [← size_list]; simp

theorem few1_calls : TellsF (fun _ => True) 110 (fun nm => !decide (1 ≤ nm.size ∧ nm.size ≤ 24)) := by
  intro nm V w cs _ hn hV
  obtain ⟨k, n, s, l, fn, fv⟩ := V
  obtain ⟨la, lc, fa, fc, rfl, _⟩ := hV.inv
  show Calls _ _ _ _ fun e w' => e = .returned (.bool (!decide (1 ≤ nm.size ∧ nm.size ≤ 24))) ∧ _
  by_cases h0 : nm.toList = []
  · have h1 : nm.size = 0 := (empty_iff nm).1 h0
    have he : (!decide (1 ≤ nm.size ∧ nm.size ≤ 24)) = true := by rw [h1]; rfl
    rw [he]
    clear he
    go_enter Tryd.func110, Tryd.ntmps110
    go_wp2_with fail
    go_ret
    exact ⟨rfl, below_new _ _⟩
  · have h1 : nm.size ≠ 0 := fun e => h0 ((empty_iff nm).2 e)
    have he : Hid ((!decide (1 ≤ nm.size ∧ nm.size ≤ 24)) = decide (24 < nm.size)) := by
      show _ = _
      by_cases h : 24 < nm.size
      · simp [h]
      · simp [h]; omega
    go_enter Tryd.func110, Tryd.ntmps110
    go_wp2_with fail
    go_ret
    rw [he.out]
    have h2 : nm.toList.isEmpty = false := by simp [h0]
    exact ⟨by simp [h2]; omega, below_new _ _⟩

theorem spelled_calls : TellsB Tabs 79 spelledB := by
  intro V w cs hT hV
  obtain ⟨k, n, s, l, fn, fv⟩ := V
  obtain ⟨la, lc, fa, fc, rfl, hk, hn, hs, hlc, hlm, hfc, hfm, hL, hF⟩ := hV.inv
  have hT1 := Tabs.stays w _ hT (below_new w (.cells #[.int .i64 k, .int .i64 n, .string s, .slice la l.length lc, .slice fa fv.length fc] 52))
  have hc := valid_calls s _ hs hT1
  have he : Hid (spelledB (.mk k n s l fn fv) = (utf s && !fn.any fun nm => !utf nm)) := by
    show _ = _
    simp only [spelledB, List.not_any_eq_all_not, Bool.not_not]
  have hcf := fun (w' : World) (hb : Below w.heap.size w w') => containsFunc_calls Tabs.stays 109 _ spelled1_calls (enters_of Tryd.func109 (by kernel_rfl) rfl) fn fv fa fc w' (Tabs.stays w w' hT hb) (hF.later hb)
  have hcf := hid hcf
  generalize utf s = U at *
  generalize (fn.any fun nm => !utf nm) = N at *
  generalize spelledB (.mk k n s l fn fv) = R at *
  clear hT hT1
  go_enter Tryd.func79, Tryd.ntmps79
  go_wp2_with fail
  refine hc.mono ?_
  rintro e w1 ⟨rfl, hb⟩
  have hb0 := (below_new w _).step hb
  have e4 := box_cell (j := 4) hb rfl
  cases U with
  | false =>
    go_wp2_with fail
    go_ret
    exact ⟨by rw [he.out]; rfl, hb0⟩
  | true =>
    go_wp2_with fail
    refine (hcf.out w1 hb0).mono ?_
    rintro e w2 ⟨rfl, hb2⟩
    go_wp2_with fail
    go_ret
    exact ⟨by rw [he.out]; rfl, hb0.step hb2⟩

theorem few_calls : TellsB (fun _ => True) 80 fewB := by
  intro V w cs _ hV
  obtain ⟨k, n, s, l, fn, fv⟩ := V
  obtain ⟨la, lc, fa, fc, rfl, hk, hn, hs, hlc, hlm, hfc, hfm, hL, hF⟩ := hV.inv
  have he : Hid (fewB (.mk k n s l fn fv) = (decide ((l.length : Int) ≤ 32) && decide ((fv.length : Int) ≤ 32) && !fn.any fun nm => !decide (1 ≤ nm.size ∧ nm.size ≤ 24))) := by
    show _ = _
    simp only [fewB, List.not_any_eq_all_not, Bool.not_not]
    congr 1
    congr 1
    · simp; omega
    · simp; omega
  have hcf := fun (w' : World) (hb : Below w.heap.size w w') => containsFunc_calls (E := fun _ => True) (fun _ _ _ _ => trivial) 110 _ few1_calls (enters_of Tryd.func110 (by kernel_rfl) rfl) fn fv fa fc w' trivial (hF.later hb)
  have hcf := hid hcf
  generalize (fn.any fun nm => !decide (1 ≤ nm.size ∧ nm.size ≤ 24)) = N at *
  generalize fewB (.mk k n s l fn fv) = R at *
  by_cases h1 : (l.length : Int) ≤ 32
  · by_cases h2 : (fv.length : Int) ≤ 32
    · go_enter Tryd.func80, Tryd.ntmps80
      go_wp2_with fail
      refine (hcf.out _ (below_new _ _)).mono ?_
      rintro e w2 ⟨rfl, hb2⟩
      go_wp2_with fail
      go_ret
      exact ⟨by rw [he.out]; simp [h1, h2], (below_new _ _).step hb2⟩
    · have h2' : decide ((fv.length : Int) ≤ 32) = false := by simpa using h2
      go_enter Tryd.func80, Tryd.ntmps80
      go_wp2_with fail
      go_ret
      exact ⟨by rw [he.out]; simp [h2'], below_new _ _⟩
  · have h1' : decide ((l.length : Int) ≤ 32) = false := by simpa using h1
    go_enter Tryd.func80, Tryd.ntmps80
    go_wp2_with fail
    go_ret
    exact ⟨by rw [he.out]; simp [h1'], below_new _ _⟩
end Go.Proofs.YtdjegpmjhfbamaaDoor
