/-
  Walks: value.formed, spelled, few.
-/
import Derived.Test.YtdjegpmjhfbamaaDoorVal3
namespace Go.Proofs.YtdjegpmjhfbamaaDoor
open Go.RowKit Go.Proofs

theorem formed_no {k n : Int} {s : ByteArray} {l : List PVal} {fn : List ByteArray} {fv : List PVal}
    (h : ¬ (1 ≤ k ∧ k ≤ 6) ∨ (k = 2 ∧ ¬ n = 0 ∧ ¬ n = 1) ∨ (¬ k = 2 ∧ ¬ k = 3 ∧ ¬ n = 0) ∨ (¬ k = 4 ∧ s.toList.isEmpty = false) ∨ (¬ k = 5 ∧ 0 < l.length) ∨ (¬ k = 6 ∧ 0 < fv.length)) :
    formedB (.mk k n s l fn fv) = false := by
  rw [Bool.eq_false_iff]
  intro hc
  simp only [formedB, Bool.and_eq_true, decide_eq_true_eq] at hc
  obtain ⟨⟨⟨⟨⟨⟨h1, h2⟩, h3⟩, h4⟩, h5⟩, h6⟩, _⟩ := hc
  rcases h with h | ⟨a, b, c⟩ | ⟨a, b, c⟩ | ⟨a, b⟩ | ⟨a, b⟩ | ⟨a, b⟩
  · exact h h1
  · rcases h2 a with h | h
    · exact b h
    · exact c h
  · exact c (h3 a b)
  · rw [h4 a] at b; simp at b
  · have := h5 a; omega
  · have := h6 a; omega

set_option maxRecDepth 100000 in
set_option maxHeartbeats 1000000 in
theorem formed_l (k n : Int) (s : ByteArray) (la fa : Option Addr) (ll lc fl fc : Nat) (w : World) (hk : -9223372036854775808 ≤ k ∧ k ≤ 9223372036854775807) (b5 : (k != 5) = true) (hl : 0 < (ll : Int)) :
    Calls Tryd.prog 78 #[.agg #[.int .i64 k, .int .i64 n, .string s, .slice la ll lc, .slice fa fl fc]] w fun e w' => e = .returned (.bool false) ∧ Below w.heap.size w w' := by
  go_enter Tryd.func78, Tryd.ntmps78
  go_wp2_with fail
  all_goals go_ret
  all_goals exact ⟨rfl, below_new _ _⟩

set_option maxRecDepth 100000 in
set_option maxHeartbeats 1000000 in
theorem formed_f (k n : Int) (s : ByteArray) (la fa : Option Addr) (lc fl fc : Nat) (w : World) (hk : -9223372036854775808 ≤ k ∧ k ≤ 9223372036854775807)
    (b6 : (k != 6) = true) (hf : 0 < (fl : Int)) :
    Calls Tryd.prog 78 #[.agg #[.int .i64 k, .int .i64 n, .string s, .slice la 0 lc, .slice fa fl fc]] w fun e w' => e = .returned (.bool false) ∧ Below w.heap.size w w' := by
  go_enter Tryd.func78, Tryd.ntmps78
  go_wp2_with fail
  all_goals go_ret
  all_goals exact ⟨rfl, below_new _ _⟩
set_option maxRecDepth 100000 in
set_option maxHeartbeats 1000000 in
theorem formed_f5 (n : Int) (s : ByteArray) (la fa : Option Addr) (ll lc fl fc : Nat) (w : World) (hf : 0 < (fl : Int)) :
    Calls Tryd.prog 78 #[.agg #[.int .i64 5, .int .i64 n, .string s, .slice la ll lc, .slice fa fl fc]] w fun e w' => e = .returned (.bool false) ∧ Below w.heap.size w w' := by
  go_enter Tryd.func78, Tryd.ntmps78
  go_wp2_with fail
  all_goals go_ret
  all_goals exact ⟨rfl, below_new _ _⟩

set_option maxRecDepth 100000 in
set_option maxHeartbeats 1000000 in
theorem formed_5 (n : Int) (s : ByteArray) (l : List PVal) (la fa : Option Addr) (lc fc : Nat) (w : World) :
    Calls Tryd.prog 78 #[.agg #[.int .i64 5, .int .i64 n, .string s, .slice la l.length lc, .slice fa 0 fc]] w fun e w' => e = .returned (.bool (formedB (.mk 5 n s l [] []))) ∧ Below w.heap.size w w' := by
  by_cases h0 : n = 0
  · subst h0
    cases hs : s.toList.isEmpty with
    | true =>
      have he : Hid (formedB (.mk 5 0 s l [] []) = true) := by
        show _ = _
        have : s.toList = [] := by simpa using hs
        simp [formedB, rising, this]
      generalize formedB (.mk 5 0 s l [] []) = R at *
      go_enter Tryd.func78, Tryd.ntmps78
      go_wp2_with fail
      go_rounds 1
      go_ret
      exact ⟨by rw [he.out]; rfl, below_new _ _⟩
    | false =>
      rw [formed_no (by simp [hs])]
      go_enter Tryd.func78, Tryd.ntmps78
      go_wp2_with fail
      all_goals go_ret
      all_goals exact ⟨rfl, below_new _ _⟩
  · rw [formed_no (by simp [h0])]
    have b0 : (n != 0) = true := by simp [h0]
    go_enter Tryd.func78, Tryd.ntmps78
    go_wp2_with fail
    all_goals go_ret
    all_goals exact ⟨rfl, below_new _ _⟩

set_option maxRecDepth 100000 in
set_option maxHeartbeats 2000000 in
theorem formed_flat_no (k n : Int) (s : ByteArray) (la fa : Option Addr) (lc fc : Nat) (w : World) (hk : -9223372036854775808 ≤ k ∧ k ≤ 9223372036854775807)
    (hno : ¬ ((1 ≤ k ∧ k ≤ 6) ∧ (k = 2 → n = 0 ∨ n = 1) ∧ (k ≠ 2 → k ≠ 3 → n = 0) ∧ (k ≠ 4 → s.toList.isEmpty = true))) :
    Calls Tryd.prog 78 #[.agg #[.int .i64 k, .int .i64 n, .string s, .slice la 0 lc, .slice fa 0 fc]] w fun e w' => e = .returned (.bool false) ∧ Below w.heap.size w w' := by
  by_cases h1 : k < 1
  · clear hno
    go_enter Tryd.func78, Tryd.ntmps78
    go_wp2_with fail
    all_goals go_ret
    all_goals exact ⟨rfl, below_new _ _⟩
  by_cases h2 : 6 < k
  · clear hno
    go_enter Tryd.func78, Tryd.ntmps78
    go_wp2_with fail
    all_goals go_ret
    all_goals exact ⟨rfl, below_new _ _⟩
  by_cases h3 : k = 2 ∧ ¬ (n = 0 ∨ n = 1)
  · obtain ⟨rfl, h⟩ := h3
    have b0 : (n != 0) = true := by simp; exact fun e => h (.inl e)
    have b1 : (n != 1) = true := by simp; exact fun e => h (.inr e)
    clear hno h h1 h2
    go_enter Tryd.func78, Tryd.ntmps78
    go_wp2_with fail
    all_goals go_ret
    all_goals exact ⟨rfl, below_new _ _⟩
  by_cases h4 : k ≠ 2 ∧ k ≠ 3 ∧ ¬ n = 0
  · obtain ⟨a, b, c⟩ := h4
    have b2 : (k == 2) = false := by simp [a]
    have b2' : (k != 2) = true := by simp [a]
    have b3 : (k != 3) = true := by simp [b]
    have b0 : (n != 0) = true := by simp [c]
    clear hno h3 a b c
    go_enter Tryd.func78, Tryd.ntmps78
    go_wp2_with fail
    all_goals go_ret
    all_goals exact ⟨rfl, below_new _ _⟩
  by_cases h5 : k ≠ 4 ∧ s.toList.isEmpty = false
  · obtain ⟨a, b⟩ := h5
    have b4 : (k != 4) = true := by simp [a]
    clear hno h3 h4 a
    go_enter Tryd.func78, Tryd.ntmps78
    go_wp2_with fail
    all_goals go_ret
    all_goals exact ⟨rfl, below_new _ _⟩
  exact absurd ⟨⟨by omega, by omega⟩, fun a => Classical.byContradiction fun b => h3 ⟨a, b⟩, fun a b => Classical.byContradiction fun c => h4 ⟨a, b, c⟩, fun a => by
    cases hb : s.toList.isEmpty with
    | true => rfl
    | false => exact absurd ⟨a, hb⟩ h5⟩ hno

set_option maxRecDepth 100000 in
set_option maxHeartbeats 2000000 in
theorem formed_flat_yes (k n : Int) (s : ByteArray) (la fa : Option Addr) (lc fc : Nat) (w : World) (h6 : ¬ k = 6)
    (hall : (1 ≤ k ∧ k ≤ 6) ∧ (k = 2 → n = 0 ∨ n = 1) ∧ (k ≠ 2 → k ≠ 3 → n = 0) ∧ (k ≠ 4 → s.toList.isEmpty = true)) :
    Calls Tryd.prog 78 #[.agg #[.int .i64 k, .int .i64 n, .string s, .slice la 0 lc, .slice fa 0 fc]] w fun e w' => e = .returned (.bool true) ∧ Below w.heap.size w w' := by
  obtain ⟨hk, h2, h3, h4⟩ := hall
  have : k = 1 ∨ k = 2 ∨ k = 3 ∨ k = 4 ∨ k = 5 := by omega
  clear hk h6
  rcases this with rfl | rfl | rfl | rfl | rfl
  · have hn := h3 (by decide) (by decide)
    have hs := h4 (by decide)
    subst hn
    clear h2 h3 h4
    go_enter Tryd.func78, Tryd.ntmps78
    go_wp2_with fail
    go_rounds 1
    go_ret
    exact ⟨rfl, below_new _ _⟩
  · have hn := h2 rfl
    have hs := h4 (by decide)
    clear h2 h3 h4
    rcases hn with rfl | rfl
    all_goals
      go_enter Tryd.func78, Tryd.ntmps78
      go_wp2_with fail
      go_rounds 1
      go_ret
      exact ⟨rfl, below_new _ _⟩
  · have hs := h4 (by decide)
    clear h2 h3 h4
    go_enter Tryd.func78, Tryd.ntmps78
    go_wp2_with fail
    go_rounds 1
    go_ret
    exact ⟨rfl, below_new _ _⟩
  · have hn := h3 (by decide) (by decide)
    subst hn
    clear h2 h3 h4
    go_enter Tryd.func78, Tryd.ntmps78
    go_wp2_with fail
    go_rounds 1
    go_ret
    exact ⟨rfl, below_new _ _⟩
  · have hn := h3 (by decide) (by decide)
    have hs := h4 (by decide)
    subst hn
    clear h2 h3 h4
    go_enter Tryd.func78, Tryd.ntmps78
    go_wp2_with fail
    go_rounds 1
    go_ret
    exact ⟨rfl, below_new _ _⟩
theorem rising_take (l : List ByteArray) : ∀ m, rising l = true → rising (l.take m) = true := by
  induction l with
  | nil => intro m h; simp [rising]
  | cons a r ih =>
    intro m h
    match m, r with
    | 0, _ => rfl
    | 1, _ => cases r <;> rfl
    | m + 2, [] => rfl
    | m + 2, b :: r =>
      simp only [rising, Bool.and_eq_true] at h
      have := ih (m + 1) h.2
      simp only [List.take_succ_cons, rising, Bool.and_eq_true] at this ⊢
      exact ⟨h.1, this⟩
theorem rising_succ : ∀ (l : List ByteArray) (j : Nat) (a b : ByteArray), l[j]? = some a → l[j + 1]? = some b → rising (l.take (j + 2)) = (rising (l.take (j + 1)) && blt a b)
  | [], j, a, b, h, _ => by simp at h
  | [x], 0, a, b, h, h' => by simp at h'
  | [x], j + 1, a, b, h, h' => by simp at h
  | x :: y :: r, 0, a, b, h, h' => by
    simp at h h'
    subst h h'
    simp [rising]
  | x :: y :: r, j + 1, a, b, h, h' => by
    have ih := rising_succ (y :: r) j a b (by simpa using h) (by simpa using h')
    simp only [List.take_succ_cons, rising] at ih ⊢
    rw [ih, Bool.and_assoc]

end Go.Proofs.YtdjegpmjhfbamaaDoor
