/-
  Walk: utf's four.
-/
import Derived.Test.YtdjegpmjhfbamaaDoorUtf1
import Derived.Test.YtdjegpmjhfbamaaDoorUtfS
namespace Go.Proofs.YtdjegpmjhfbamaaDoor
open Go.RowKit Go.Proofs

/-- The number of the first digits. -/
def accP (l : List UInt8) : Nat → Option Nat
  | 0 => some 0
  | j + 1 => (accP l j).bind fun a => (digP (l.getD j 0).toNat).map fun d => a * 16 + d
theorem four_acc (l : List UInt8) : fourP l = if 4 ≤ l.length then accP l 4 else none := by
  match l with
  | [] => rfl
  | [_] => rfl
  | [_, _] => rfl
  | [_, _, _] => rfl
  | a :: b :: c :: d :: r =>
    rw [if_pos (by simp)]
    show (digP a.toNat).bind (fun a => (digP b.toNat).bind fun b => (digP c.toNat).bind fun c => (digP d.toNat).bind fun d => some (((a * 16 + b) * 16 + c) * 16 + d)) = ((((some 0).bind fun x => (digP a.toNat).map fun d => x * 16 + d).bind fun x => (digP b.toNat).map fun d => x * 16 + d).bind fun x => (digP c.toNat).map fun d => x * 16 + d).bind fun x => (digP d.toNat).map fun d => x * 16 + d
    cases digP a.toNat <;> cases digP b.toNat <;> cases digP c.toNat <;> cases digP d.toNat <;> simp
theorem dig_lt {c d : Nat} (h : digP c = some d) : d < 16 := by
  unfold digP at h
  split at h
  · injection h with h; omega
  split at h
  · injection h with h; omega
  split at h
  · injection h with h; omega
  · cases h
theorem acc_lt {l : List UInt8} : ∀ {j a : Nat}, accP l j = some a → a < 16 ^ j
  | 0, a, h => by injection h with h; omega
  | j + 1, a, h => by
    obtain ⟨b, hb, h⟩ := Option.bind_eq_some_iff.1 (show (accP l j).bind _ = _ from h)
    obtain ⟨d, hd, h⟩ := Option.map_eq_some_iff.1 h
    have := acc_lt hb
    have := dig_lt hd
    rw [Nat.pow_succ]
    omega
theorem four_lt {l : List UInt8} {n : Nat} (h : fourP l = some n) : n < 65536 := by
  rw [four_acc] at h
  split at h
  · exact acc_lt h
  · cases h
def hexS : ByteArray := ⟨#[48, 49, 50, 51, 52, 53, 54, 55, 56, 57, 97, 98, 99, 100, 101, 102]⟩
def hexI (c : Nat) : Int := Lib.indexByte hexS.data.toList (bits .or .u8 (c : Int) 32).toNat.toUInt8
theorem hexI_no (c : Nat) (hc : c < 256) (h : digP c = none) : hexI c < 0 ∨ (0 ≤ hexI c ∧ c < 48) ∨ (0 ≤ hexI c ∧ 57 < c ∧ c < 65) := by
  have key : ∀ c : Fin 256, digP c.1 = none → hexI c.1 < 0 ∨ (0 ≤ hexI c.1 ∧ c.1 < 48) ∨ (0 ≤ hexI c.1 ∧ 57 < c.1 ∧ c.1 < 65) := by decide +kernel
  exact key ⟨c, hc⟩ h
theorem hexI_yes (c : Nat) (hc : c < 256) (d : Nat) (h : digP c = some d) : hexI c = d ∧ 48 ≤ c ∧ (c ≤ 57 ∨ 65 ≤ c) := by
  have key : ∀ c : Fin 256, (digP c.1).all (fun d => decide (hexI c.1 = d ∧ 48 ≤ c.1 ∧ (c.1 ≤ 57 ∨ 65 ≤ c.1))) = true := by decide +kernel
  have := key ⟨c, hc⟩
  rw [h] at this
  simpa using this
theorem or16 (a d : Nat) (ha : a < 65536) (hd : d < 16) : bits .or .i32 ((a : Int) * 16) (d : Int) = ((a * 16 + d : Nat) : Int) := by
  have h1 : BitVec.ofInt 32 ((a : Int) * 16) = BitVec.ofNat 32 (a * 16) := by rw [show ((a : Int) * 16) = ((a * 16 : Nat) : Int) by omega, BitVec.ofInt_natCast]
  have h2 : BitVec.ofInt 32 (d : Int) = BitVec.ofNat 32 d := BitVec.ofInt_natCast _ _
  show IntKind.i32.wrap ((BitVec.ofInt 32 ((a : Int) * 16) ||| BitVec.ofInt 32 (d : Int)).toNat : Int) = _
  have h3 : (BitVec.ofNat 32 (a * 16) ||| BitVec.ofNat 32 d).toNat = a * 16 + d := by
    rw [BitVec.toNat_or, BitVec.toNat_ofNat, BitVec.toNat_ofNat, Nat.mod_eq_of_lt (by omega), Nat.mod_eq_of_lt (by omega), show a * 16 = 2 ^ 4 * a by omega]
    exact (Nat.two_pow_add_eq_or_of_lt (by omega) a).symm
  rw [h1, h2, h3, IntKind.wrap_i32]
  omega

set_option maxRecDepth 100000 in
set_option maxHeartbeats 4000000 in
theorem four_calls (s : ByteArray) (hs : s.size ≤ 140737488355328) (w : World) : Calls Tryd.prog 68 #[.string s] w fun e w' =>
    e = .returned (.tuple #[.int .i32 ((fourP s.data.toList).getD 0 : Nat), .bool (fourP s.data.toList).isSome]) ∧ w = w' := by
  obtain ⟨R, hR⟩ : ∃ R, R = fourP s.data.toList := ⟨_, rfl⟩
  rw [← hR]
  rw [four_acc] at hR
  have hll : s.data.toList.length = s.size := by simp
  rw [hll] at hR
  have hacc : Hid (∀ j, j < 4 → accP s.data.toList j = none → accP s.data.toList 4 = none) := fun j hj h => by
    match j, hj with
    | 0, _ => cases h
    | 1, _ => simp only [accP] at h ⊢; rw [h]; rfl
    | 2, _ => simp only [accP] at h ⊢; rw [h]; rfl
    | 3, _ => simp only [accP] at h ⊢; rw [h]; rfl
  by_cases h4 : s.size < 4
  · rw [if_neg (by omega)] at hR
    subst hR
    clear hll
    go_enter Tryd.func68, Tryd.ntmps68
    go_wp2_with fail
    go_ret2
    exact ⟨rfl, rfl⟩
  rw [if_pos (by omega)] at hR
  replace hR := hid hR
  replace hll := hid hll
  go_enter Tryd.func68, Tryd.ntmps68
  go_wp2_with fail
  go_loopg [4, 10] 4 (fun g n i wr => ∃ (j a : Nat), g + j = 4 ∧ i = .int .i64 j ∧ n = .int .i32 a ∧ accP s.data.toList j = some a ∧ wr = w)
  case atStart => exact ⟨0, 0, by omega, rfl, rfl, rfl, rfl⟩
  case round =>
    obtain ⟨j, a, hj, rfl, rfl, ha, rfl⟩ := hrel
    have hal := acc_lt ha
    replace ha := hid ha
    by_cases hlt : j < 4
    · have hal2 : a < 4096 := by
        have : 16 ^ j ≤ 16 ^ 3 := Nat.pow_le_pow_right (by omega) (by omega)
        omega
      have hb := bt_at s j (by omega)
      have hb8 := bt_lt s j
      have hbd : Hid (bt s j = (s.data.toList.getD j 0).toNat) := rfl
      generalize bt s j = c at *
      have hsucc : Hid (accP s.data.toList (j + 1) = (digP c).map fun d => a * 16 + d) := by
        show _ = _
        rw [accP, ha.out, hbd.out]; rfl
      clear hal
      have hix := hid (fun w => Tryd.strings_IndexByte hexS (bits .or .u8 (c : Int) 32) w)
      have hi0 : (0 : Int) ≤ (j : Int) := by omega
      have hi1 : (j : Int) < (s.size : Int) := by omega
      cases hd : digP c with
      | none =>
        have hno := hexI_no c hb8 hd
        have hR0 : Hid (R = none) := by
          show _ = _
          rw [hR.out]
          rw [hd] at hsucc
          match j, hlt, hsucc with
          | 0, _, h => exact hacc.out 1 (by omega) h.out
          | 1, _, h => exact hacc.out 2 (by omega) h.out
          | 2, _, h => exact hacc.out 3 (by omega) h.out
          | 3, _, h => exact h.out
        replace hsucc := hid hsucc.out
        replace hd := hid hd
        have hix' : Hid (∀ w, Calls Tryd.prog 102 #[.string hexS, .int .u8 (bits .or .u8 (c : Int) 32)] w fun e w' => e = .returned (.int .i64 (hexI c)) ∧ w' = w) := hix
        clear hix
        generalize hexI c = at_ at *
        rcases hno with hno | ⟨hno, h48⟩ | ⟨hno, h57, h65⟩
        all_goals
          go_wp2_with fail
          refine (hix'.out _).mono ?_
          rintro e w1 ⟨rfl, rfl⟩
          go_wp2_with fail
          go_ret2
          exact ⟨by rw [hR0.out]; rfl, rfl⟩
      | some d =>
        obtain ⟨e1, e2, e3⟩ := hexI_yes c hb8 d hd
        have hd16 := dig_lt hd
        rw [hd] at hsucc
        replace hd := hid hd
        have hix' : Hid (∀ w, Calls Tryd.prog 102 #[.string hexS, .int .u8 (bits .or .u8 (c : Int) 32)] w fun e w' => e = .returned (.int .i64 (hexI c)) ∧ w' = w) := hix
        clear hix
        rw [e1] at hix'
        have hor := or16 a d (by omega) hd16
        obtain ⟨m, hm⟩ : ∃ m, m = a * 16 + d := ⟨_, rfl⟩
        rw [← hm] at hor
        replace hm := hid hm
        clear e1
        rcases e3 with e3 | e3
        all_goals
          go_wp2_with fail
          refine (hix'.out _).mono ?_
          rintro e w1 ⟨rfl, rfl⟩
          go_wp2_with fail
          go_roundg (4 - (j + 1))
          case measure => omega
          case rel => exact ⟨j + 1, m, by omega, by go_num, rfl, by rw [hsucc.out, hm.out]; rfl, rfl⟩
    · obtain rfl : j = 4 := by omega
      go_wp2_with fail
      go_ret2
      exact ⟨by rw [hR.out, ha.out]; rfl, rfl⟩
end Go.Proofs.YtdjegpmjhfbamaaDoor
