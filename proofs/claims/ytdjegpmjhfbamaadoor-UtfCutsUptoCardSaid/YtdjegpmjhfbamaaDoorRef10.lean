/-
  Walks: the reference's Strings, More.
-/
import Derived.Test.YtdjegpmjhfbamaaDoorRef9
import Derived.Test.YtdjegpmjhfbamaaDoorOrd
namespace Go.Proofs.YtdjegpmjhfbamaaDoor
open Go.RowKit Go.Proofs

theorem Src.at_ {w : World} {g : Nat} {l : List UInt8} (h : Src w g l) {j : Nat} {b : UInt8} (hb : l[j]? = some b) : w.cell? ⟨g, j, none⟩ = some (.int .u8 b.toNat) := by
  have := h j (.int .u8 b.toNat) (by simp [bcells, hb])
  unfold Addr.add at this
  split at this
  · rename_i h0; subst h0; exact this
  · simpa using this

set_option maxRecDepth 100000 in
set_option maxHeartbeats 1000000 in
theorem rmore_calls (h : Int) (l : List UInt8) (hl : l.length ≤ 140737488355328) (g c : Nat) (w : World) (hs : Src w g l) :
    Calls Tryd.prog 50 #[.int .u64 h, .slice (some ⟨g, 0, none⟩) l.length c] w fun e w' => e = .returned (.int .u64 (mix h l)) ∧ w = w' := by
  go_enter Tryd.func50, Tryd.ntmps50
  go_wp2_with fail
  go_loopg [0, 5] l.length (fun n hh i wr => ∃ j : Nat, n + j = l.length ∧ i = .int .i64 j ∧ hh = .int .u64 (mix h (l.take j)) ∧ wr = w)
  case atStart => exact ⟨0, by omega, rfl, rfl, rfl⟩
  case round =>
    obtain ⟨j, hj, rfl, rfl, rfl⟩ := hrel
    by_cases hlt : j < l.length
    · obtain ⟨b, hb⟩ : ∃ b, l[j]? = some b := ⟨_, List.getElem?_eq_getElem hlt⟩
      have c0 := hs.at_ hb
      have hb8 := b.toNat_lt
      have hsx : Hid (mix h (l.take (j + 1)) = mix1 (mix h (l.take j)) b) := by
        show _ = _
        rw [take_succ_of hb, mix_append]; rfl
      generalize mix h (l.take j) = m at *
      replace hb := hid hb
      go_wp2_with fail
      go_roundg (l.length - (j + 1))
      case measure => omega
      case rel => exact ⟨j + 1, by omega, by go_num, by rw [hsx.out]; rfl, rfl⟩
    · have he : Hid (mix h (l.take j) = mix h l) := by show _ = _; rw [List.take_of_length_le (by omega)]
      generalize mix h (l.take j) = m at *
      go_wp2_with fail
      go_ret
      exact ⟨by rw [← he.out]; rfl, rfl⟩

theorem less_cmp : ∀ a b : List UInt8, Lib.compareBytes a b = if Op.bytesLess a b then -1 else if Op.bytesLess b a then 1 else 0
  | [], [] => by simp [Lib.compareBytes, Op.bytesLess]
  | [], _ :: _ => by simp [Lib.compareBytes, Op.bytesLess]
  | _ :: _, [] => by simp [Lib.compareBytes, Op.bytesLess]
  | x :: a, y :: b => by
    rw [Lib.compareBytes, less_cmp a b]
    simp only [Op.bytesLess]
    by_cases h1 : x < y
    · simp [h1]
    · by_cases h2 : y < x
      · have h3 : ¬ x = y := fun e => by subst e; exact h1 h2
        simp [h1, h2, h3]
      · have h3 : x = y := UInt8.le_antisymm (UInt8.not_lt.1 h2) (UInt8.not_lt.1 h1)
        subst h3
        simp [h1]
theorem scmp_less (a b : ByteArray) : scmp a b = if blt a b then -1 else if blt b a then 1 else 0 := by
  unfold scmp blt
  rw [ByteArray.toList_eq, ByteArray.toList_eq, less_cmp]
theorem rstrings_calls (a b : ByteArray) (w : World) : Calls Tryd.prog 94 #[.string a, .string b] w fun e w' => e = .returned (.int .i64 (scmp a b)) ∧ w = w' := by
  have hR : Hid (scmp a b = if blt a b then -1 else if blt b a then 1 else 0) := scmp_less a b
  generalize scmp a b = R at *
  cases h1 : blt a b with
  | true =>
    replace hR : Hid (R = -1) := by show _ = _; rw [hR.out, h1]; rfl
    have b1 : Op.bytesLess a.toList b.toList = true := h1
    go_enter Tryd.func94, Tryd.ntmps94
    go_wp2_with fail
    go_ret
    exact ⟨by rw [hR.out]; rfl, rfl⟩
  | false =>
  have b1 : Op.bytesLess a.toList b.toList = false := h1
  cases h2 : blt b a with
  | true =>
    replace hR : Hid (R = 1) := by show _ = _; rw [hR.out, h1, h2]; rfl
    have b2 : Op.bytesLess b.toList a.toList = true := h2
    have b3 : (a.toList == b.toList) = false := by
      rw [beq_eq_false_iff_ne]
      intro e
      rw [e] at b2 b1
      rw [b1] at b2
      cases b2
    go_enter Tryd.func94, Tryd.ntmps94
    go_wp2_with fail
    go_ret
    exact ⟨by rw [hR.out]; rfl, rfl⟩
  | false =>
    replace hR : Hid (R = 0) := by show _ = _; rw [hR.out, h1, h2]; rfl
    have b2 : Op.bytesLess b.toList a.toList = false := h2
    have b3 : (a.toList == b.toList) = true := by
      have := less_cmp a.data.toList b.data.toList
      rw [← ByteArray.toList_eq, ← ByteArray.toList_eq, b1, b2] at this
      have := (bytes_zero _ _).1 (by simpa using this)
      rw [this]; simp
    go_enter Tryd.func94, Tryd.ntmps94
    go_wp2_with fail
    go_ret
    exact ⟨by rw [hR.out]; rfl, rfl⟩
end Go.Proofs.YtdjegpmjhfbamaaDoor
