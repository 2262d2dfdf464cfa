/-
  Walks: value.formed at documents, and whole; spelled, few.
-/
import Derived.Test.YtdjegpmjhfbamaaDoorVal4
import Derived.WalkLawsBesides
namespace Go.Proofs.YtdjegpmjhfbamaaDoor
open Go.RowKit Go.Proofs

theorem below_drewN {B : Nat} {a w : World} (h : Below B a w) : ∀ n, Below B a (w.drewN n)
  | 0 => h
  | n + 1 => (below_drewN h n).drew
set_option maxRecDepth 100000 in
set_option maxHeartbeats 2000000 in
theorem formed_6 (s : ByteArray) (hs : s.toList.isEmpty = true) (la fa : Option Addr) (lc fc : Nat) (fn : List ByteArray) (fv : List PVal) (w : World) (hF : RdF w (Now w) fn fv (.slice fa fv.length fc)) :
    Calls Tryd.prog 78 #[.agg #[.int .i64 6, .int .i64 0, .string s, .slice la 0 lc, .slice fa fv.length fc]] w fun e w' => e = .returned (.bool (rising fn)) ∧ Below w.heap.size w w' := by
  have hlen := hid hF.1
  have hlim : fv.length ≤ 1466015503701 := by obtain ⟨_, _, _, _, _, _, _, h, _⟩ := hF; exact h.2
  go_enter Tryd.func78, Tryd.ntmps78
  go_wp2_with fail
  go_loopg [3] (fv.length + 1) (fun g i wr => ∃ m : Nat, (g + m = fv.length + 1) ∧ i = .int .i64 ((m : Int) + 1) ∧ m ≤ fv.length ∧ rising (fn.take (m + 1)) = true ∧ Below w.heap.size w wr ∧ wr.cell? ⟨w.heap.size, 4, none⟩ = some (.slice fa fv.length fc))
  case atStart => exact ⟨0, by omega, by simp, by omega, by cases fn <;> simp [rising], below_new _ _, box_cell (Below.refl _ _) rfl⟩
  case round =>
    obtain ⟨m, hj, rfl, hm, hris, hbr, c4⟩ := hrel
    have hpr := hF.later hbr
    have hris := hid hris
    by_cases hlt : m + 1 < fv.length
    · obtain ⟨x, hx⟩ : ∃ x, fv[m + 1]? = some x := ⟨_, List.getElem?_eq_getElem hlt⟩
      obtain ⟨nm, hnm⟩ : ∃ nm, fn[m + 1]? = some nm := ⟨_, List.getElem?_eq_getElem (by rw [hlen.out]; exact hlt)⟩
      obtain ⟨y, hy⟩ : ∃ x, fv[m]? = some x := ⟨_, List.getElem?_eq_getElem (by omega)⟩
      obtain ⟨nn, hnn⟩ : ∃ nm, fn[m]? = some nm := ⟨_, List.getElem?_eq_getElem (by rw [hlen.out]; omega)⟩
      obtain ⟨b, off, xs, rfl, hxS, hxc, hxr, hnz⟩ := hpr.at_ hnm hx
      obtain ⟨b', off', ys, he, hyS, hyc, hyr, hnz'⟩ := hpr.at_ hnn hy
      injection he with he
      injection he with he1 he2
      subst he1 he2
      have c0 : wr.cell? ⟨b, off + (m + 1) * 6, none⟩ = some (.string nm) := hxc 0 _ rfl
      have d0 : wr.cell? ⟨b, off + m * 6, none⟩ = some (.string nn) := hyc 0 _ rfl
      have hrs := hid (rising_succ fn m nn nm hnn hnm)
      clear hxc hyc hx hnm hy hnn
      have w1 : IntKind.i64.wrap (m : Int) = (m : Int) := IntWalk.i64_in _ ⟨by omega, by omega⟩
      have p1 : (0 : Int) ≤ (m : Int) + 1 := by omega
      have l1 : (m : Int) + 1 < (fv.length : Int) := by omega
      have l0 : (m : Int) < (fv.length : Int) := by omega
      have t1 : ((m : Int) + 1).toNat = m + 1 := by omega
      go_wp2_with fail
      go_quiet (fail)
      go_wp2_with fail
      · have ht : (!Op.bytesLess nn.toList nm.toList) = true := by assumption
        have hf : rising fn = false := by
          cases hc : rising fn with
          | false => rfl
          | true =>
            have h1 := rising_take fn (m + 2) hc
            rw [hrs.out, hris.out, Bool.true_and] at h1
            unfold blt at h1
            rw [h1] at ht
            simp at ht
        rw [hf]
        go_ret
        exact ⟨rfl, below_drewN hbr _⟩
      · have ht : (!Op.bytesLess nn.toList nm.toList) = false := by assumption
        go_roundg (fv.length - m)
        case measure => omega
        case rel => exact ⟨m + 1, by omega, by go_num, by omega, by rw [hrs.out, hris.out, Bool.true_and]; unfold blt; simpa using ht, below_drewN hbr _, c4⟩
    · have he : Hid (rising fn = true) := by
        have h1 : fn.take (m + 1) = fn := List.take_of_length_le (by rw [hlen.out]; omega)
        rw [h1] at hris
        exact hris.out
      go_wp2_with fail
      go_ret
      exact ⟨by rw [he.out]; rfl, hbr⟩

set_option maxRecDepth 100000 in
theorem formed_6_n (n : Int) (b0 : (n != 0) = true) (s : ByteArray) (la fa : Option Addr) (lc fl fc : Nat) (w : World) :
    Calls Tryd.prog 78 #[.agg #[.int .i64 6, .int .i64 n, .string s, .slice la 0 lc, .slice fa fl fc]] w fun e w' => e = .returned (.bool false) ∧ Below w.heap.size w w' := by
  go_enter Tryd.func78, Tryd.ntmps78
  go_wp2_with fail
  all_goals go_ret
  all_goals exact ⟨rfl, below_new _ _⟩
set_option maxRecDepth 100000 in
theorem formed_6_s (n : Int) (s : ByteArray) (hs : s.toList.isEmpty = false) (la fa : Option Addr) (lc fl fc : Nat) (w : World) :
    Calls Tryd.prog 78 #[.agg #[.int .i64 6, .int .i64 n, .string s, .slice la 0 lc, .slice fa fl fc]] w fun e w' => e = .returned (.bool false) ∧ Below w.heap.size w w' := by
  go_enter Tryd.func78, Tryd.ntmps78
  go_wp2_with fail
  all_goals go_ret
  all_goals exact ⟨rfl, below_new _ _⟩

theorem formed_calls (V : PVal) (w : World) (cs : List Value) (h : Rd w (Now w) V cs) :
    Calls Tryd.prog 78 #[.agg cs.toArray] w fun e w' => e = .returned (.bool (formedB V)) ∧ Below w.heap.size w w' := by
  obtain ⟨k, n, s, l, fn, fv⟩ := V
  obtain ⟨la, lc, fa, fc, rfl, hk, hn, hs, hlc, hlm, hfc, hfm, hL, hF⟩ := h.inv
  have hlen := hF.1
  by_cases hl5 : k ≠ 5 ∧ 0 < l.length
  · rw [formed_no (by simp only [hl5]; simp)]
    exact formed_l k n s la fa l.length lc fv.length fc w hk (by simp [hl5.1]) (by omega)
  by_cases hf6 : k ≠ 6 ∧ 0 < fv.length
  · rw [formed_no (by simp only [hf6]; simp)]
    by_cases h5 : k = 5
    · subst h5
      exact formed_f5 n s la fa l.length lc fv.length fc w (by omega)
    · have h0 : l.length = 0 := by omega
      rw [h0]
      exact formed_f k n s la fa lc fv.length fc w hk (by simp [hf6.1]) (by omega)
  by_cases h5 : k = 5
  · subst h5
    have h0 : fv = [] := List.eq_nil_of_length_eq_zero (by omega)
    subst h0
    have h1 : fn = [] := List.eq_nil_of_length_eq_zero (by simpa using hlen)
    subst h1
    exact formed_5 n s l la fa lc fc w
  have hl0 : l = [] := List.eq_nil_of_length_eq_zero (by omega)
  subst hl0
  by_cases h6 : k = 6
  · subst h6
    by_cases hn0 : n = 0 ∧ s.toList.isEmpty = true
    · obtain ⟨rfl, hs0⟩ := hn0
      have he : formedB (.mk 6 0 s [] fn fv) = rising fn := by
        have : s.toList = [] := by simpa using hs0
        simp [formedB, this]
      rw [he]
      exact formed_6 s hs0 la fa lc fc fn fv w hF
    · have hno : formedB (.mk 6 n s [] fn fv) = false := formed_no (by
        by_cases hn1 : n = 0
        · right; right; right; left
          exact ⟨by decide, by cases hc : s.toList.isEmpty with
            | false => rfl
            | true => exact absurd ⟨hn1, hc⟩ hn0⟩
        · right; right; left
          exact ⟨by decide, by decide, hn1⟩)
      rw [hno]
      by_cases hn1 : n = 0
      · exact formed_6_s n s (by cases hc : s.toList.isEmpty with
          | false => rfl
          | true => exact absurd ⟨hn1, hc⟩ hn0) la fa lc fv.length fc w
      · exact formed_6_n n (by simp [hn1]) s la fa lc fv.length fc w
  · have h0 : fv = [] := List.eq_nil_of_length_eq_zero (by omega)
    subst h0
    have h1 : fn = [] := List.eq_nil_of_length_eq_zero (by simpa using hlen)
    subst h1
    by_cases hall : (1 ≤ k ∧ k ≤ 6) ∧ (k = 2 → n = 0 ∨ n = 1) ∧ (k ≠ 2 → k ≠ 3 → n = 0) ∧ (k ≠ 4 → s.toList.isEmpty = true)
    · have he : formedB (.mk k n s [] [] []) = true := by
        simp only [formedB, Bool.and_eq_true, decide_eq_true_eq]
        obtain ⟨a, b, c, d⟩ := hall
        exact ⟨⟨⟨⟨⟨⟨a, b⟩, c⟩, fun h => by simpa using d h⟩, fun _ => rfl⟩, fun _ => rfl⟩, rfl⟩
      rw [he]
      exact formed_flat_yes k n s la fa lc fc w h6 hall
    · have he : formedB (.mk k n s [] [] []) = false := formed_no (by
        apply Classical.byContradiction
        intro hc
        simp only [not_or] at hc
        obtain ⟨a, b, c, d, _⟩ := hc
        refine hall ⟨Classical.not_not.1 a, fun e => ?_, fun e f => ?_, fun e => ?_⟩
        · apply Classical.byContradiction; intro g; simp only [not_or] at g; exact b ⟨e, g⟩
        · apply Classical.byContradiction; intro g; exact c ⟨e, f, g⟩
        · cases hc : s.toList.isEmpty with
          | true => rfl
          | false => exact absurd ⟨e, hc⟩ d)
      rw [he]
      exact formed_flat_no k n s la fa lc fc w hk hall
end Go.Proofs.YtdjegpmjhfbamaaDoor
