/-
  Walks: value.digits, Turned.
-/
import Derived.Handy
import Derived.Deep.LoopGhost
import Derived.WalkLawsBesides
import Derived.Test.YtdjegpmjhfbamaaDoorMem
import Derived.Test.YtdjegpmjhfbamaaDoorProg
import Derived.Lib.Zigzag
namespace Go.Proofs.YtdjegpmjhfbamaaDoor
open Go.RowKit Go.Proofs

set_option maxRecDepth 100000 in
theorem digits_calls (n : Nat) (hn : n < 18446744073709551616) (w : World) :
    Calls Tryd.prog 111 #[.int .u64 n] w fun e w' => e = .returned (.int .i64 (digits n)) ∧ w = w' := by
  have h10 := digits_le n hn
  go_enter Tryd.func111, Tryd.ntmps111
  go_wp2_with fail
  go_loopg [0, 3] n (fun g m k wr => ∃ (a j : Nat), g = a ∧ a < 18446744073709551616 ∧ m = .int .u64 a ∧ k = .int .i64 j ∧ digits a + j = digits n + 1 ∧ wr = w)
  case atStart => exact ⟨n, 1, rfl, hn, rfl, rfl, by omega, rfl⟩
  case round =>
    obtain ⟨a, j, rfl, ha, rfl, rfl, hd, rfl⟩ := hrel
    have hda := digits_le gk ha
    have hd := hid hd
    by_cases h : 128 ≤ gk
    · go_wp2_with fail
      go_roundg (gk / 128)
      case measure => omega
      case rel => exact ⟨gk / 128, j + 1, rfl, by omega, by go_num, by go_num, by
        have e := hd.out
        conv at e => lhs; unfold digits
        rw [if_neg (by omega)] at e
        omega, rfl⟩
    · go_wp2_with fail
      go_ret
      have e := hd.out
      conv at e => lhs; unfold digits
      rw [if_pos (by omega)] at e
      exact ⟨by have : j = digits n := by omega
                rw [this]; rfl, rfl⟩

theorem turned_pos {n : Int} (h0 : 0 ≤ n) (h1 : n ≤ 9223372036854775807) : bits .xor .u64 (n * 2) (n / 9223372036854775808) = (turned n : Int) := by
  obtain ⟨m, rfl⟩ := Int.eq_ofNat_of_zero_le h0
  have e1 : (m : Int) / 9223372036854775808 = ((0 : Nat) : Int) := by omega
  have e2 : (m : Int) * 2 = ((m * 2 : Nat) : Int) := by omega
  rw [e1, e2, bits_xor_u64_nat _ _ (by omega) (by omega), Nat.xor_zero]
  unfold turned
  rw [if_neg (by omega)]
  omega
theorem turned_neg {n : Int} (h0 : -9223372036854775808 ≤ n) (h1 : n < 0) : bits .xor .u64 (IntKind.u64.wrap (IntKind.u64.wrap n * 2)) (IntKind.u64.wrap (n / 9223372036854775808)) = (turned n : Int) := by
  have e1 : IntKind.u64.wrap (IntKind.u64.wrap n * 2) = (((2 * n + 18446744073709551616).toNat : Nat) : Int) := by
    rw [IntKind.wrap_u64, IntKind.wrap_u64]
    omega
  have e2 : IntKind.u64.wrap (n / 9223372036854775808) = ((2 ^ 64 - 1 : Nat) : Int) := by
    rw [IntKind.wrap_u64]
    omega
  rw [e1, e2, bits_xor_u64_nat _ _ (by omega) (by decide), Nat.xor_comm, Lib.xor_ones64 _ (by omega)]
  unfold turned
  rw [if_pos (by omega)]
  omega

set_option maxRecDepth 100000 in
theorem turned_calls (n : Int) (hn : -9223372036854775808 ≤ n ∧ n ≤ 9223372036854775807) (w : World) :
    Calls Tryd.prog 112 #[.int .i64 n] w fun e w' => e = .returned (.int .u64 (turned n)) ∧ w = w' := by
  by_cases h : 0 ≤ n
  · have he := hid (turned_pos h hn.2)
    go_enter Tryd.func112, Tryd.ntmps112
    go_wp2_with fail
    go_ret
    exact ⟨by rw [← he.out]; rfl, rfl⟩
  · have he := hid (turned_neg hn.1 (by omega))
    go_enter Tryd.func112, Tryd.ntmps112
    go_wp2_with fail
    go_ret
    exact ⟨by rw [← he.out]; rfl, rfl⟩
end Go.Proofs.YtdjegpmjhfbamaaDoor
