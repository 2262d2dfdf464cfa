/-
  Plain: the reference's order of values is the order of values, for values by their form.
-/
import Derived.Test.YtdjegpmjhfbamaaDoorOrd
namespace Go.Proofs.YtdjegpmjhfbamaaDoor

theorem scmp_empty : scmp ByteArray.empty ByteArray.empty = 0 := rfl
theorem icmp_self (x : Int) : icmp x x = 0 := by simp [icmp]
/-- In the reference's order: kind, number, text, list, fields, lengths. -/
theorem cmpV_ref {k n : Int} {s : ByteArray} {l : List PVal} {fn : List ByteArray} {fv : List PVal} {k' n' : Int} {s' : ByteArray} {l' : List PVal} {fn' : List ByteArray} {fv' : List PVal}
    (h : formedB (.mk k n s l fn fv) = true) (h' : formedB (.mk k' n' s' l' fn' fv') = true) (hl : fn.length = fv.length) (hl' : fn'.length = fv'.length) :
    cmpV (.mk k n s l fn fv) (.mk k' n' s' l' fn' fv') = lex (icmp k k') (lex (icmp n n') (lex (scmp s s') (lex (cmpL l l') (lex (cmpF fn fv fn' fv') (icmp (l.length + fv.length) (l'.length + fv'.length)))))) := by
  rw [cmpV_lex]
  by_cases hk : k = k'
  · subst hk
    obtain ⟨a1, a2, a3, a4⟩ := formed_has h
    obtain ⟨b1, b2, b3, b4⟩ := formed_has h'
    by_cases c5 : k = 5
    · have n0 := a1 (by omega) (by omega)
      have n0' := b1 (by omega) (by omega)
      have s0 := a2 (by omega)
      have s0' := b2 (by omega)
      have f0 := a4 (by omega)
      have f0' := b4 (by omega)
      subst n0 n0' s0 s0' f0 f0'
      have e : fn = [] := List.eq_nil_of_length_eq_zero (by simpa using hl)
      have e' : fn' = [] := List.eq_nil_of_length_eq_zero (by simpa using hl')
      subst e e'
      simp [lex, icmp_self, scmp_empty, cmpF]
      repeat' split
      all_goals omega
    have l0 := a3 c5
    have l0' := b3 c5
    subst l0 l0'
    by_cases c6 : k = 6
    · have n0 := a1 (by omega) (by omega)
      have n0' := b1 (by omega) (by omega)
      have s0 := a2 (by omega)
      have s0' := b2 (by omega)
      subst n0 n0' s0 s0'
      simp [lex, icmp_self, scmp_empty, cmpL]
    have f0 := a4 c6
    have f0' := b4 c6
    subst f0 f0'
    have e : fn = [] := List.eq_nil_of_length_eq_zero (by simpa using hl)
    have e' : fn' = [] := List.eq_nil_of_length_eq_zero (by simpa using hl')
    subst e e'
    simp [lex, icmp_self, cmpL, cmpF]
  · have : icmp k k' ≠ 0 := by unfold icmp; split <;> (try split) <;> omega
    simp [lex, this]
end Go.Proofs.YtdjegpmjhfbamaaDoor
