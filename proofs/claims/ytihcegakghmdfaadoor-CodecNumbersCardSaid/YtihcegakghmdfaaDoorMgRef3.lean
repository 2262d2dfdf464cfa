/-
  Walks: the reference's Next.
-/
import Derived.Test.YtihcegakghmdfaaDoorMgUtfP
import Derived.Test.YtihcegakghmdfaaDoorMgVal20
namespace Go.Proofs.YtihcegakghmdfaaDoor
open Go.RowKit Go.Proofs

/-- The byte at a place (0 behind the end). -/
def bt (s : ByteArray) (j : Nat) : Nat := (s.data.toList.getD j 0).toNat
theorem bt_lt (s : ByteArray) (j : Nat) : bt s j < 256 := UInt8.toNat_lt _
theorem bt_at (s : ByteArray) (j : Nat) (h : j < s.size) : (s[j]'h).toNat = bt s j := by
  unfold bt
  have h' : j < s.data.toList.length := by simpa using h
  simp [List.getD, List.getElem?_eq_getElem h']
  rfl
def nextS (s : ByteArray) (i : Nat) : Option (Nat × Nat) := nextN (s.size - i) (bt s i) (bt s (i + 1)) (bt s (i + 2)) (bt s (i + 3))
theorem leafN {R : Option (Nat × Nat)} {X Y : Int} {i : Nat} (h : R = none) : ∀ p : Nat × Nat, R = some p → X = p.1 ∧ Y = i + p.2 := by subst h; intro p hp; cases hp
theorem leafS {R : Option (Nat × Nat)} {X Y : Int} {i v sz : Nat} (h : R = some (v, sz)) (hx : X = v) (hy : Y = i + sz) : ∀ p : Nat × Nat, R = some p → X = p.1 ∧ Y = i + p.2 := by
  subst h
  intro p hp
  obtain rfl := Option.some.inj hp
  exact ⟨hx, hy⟩

set_option maxRecDepth 100000 in
set_option maxHeartbeats 8000000 in
theorem next_calls (s : ByteArray) (hs : s.size ≤ 140737488355328) (i : Nat) (hi : i < s.size) (w : World) : Calls Tryd.prog 131 #[.string s, .int .i64 i] w fun e w' =>
    (∃ x y : Int, e = .returned (.tuple #[.int .i64 x, .int .i64 y, .bool (nextS s i).isSome]) ∧ ∀ p, nextS s i = some p → x = p.1 ∧ y = i + p.2) ∧ w = w' := by
  have h0 := bt_at s i hi
  have hl0 := bt_lt s i
  obtain ⟨R, hR⟩ : ∃ R, R = nextS s i := ⟨_, rfl⟩
  rw [← hR]
  unfold nextS nextN at hR
  generalize bt s i = a0 at *
  replace hR := hid hR
  have hi0 : (0 : Int) ≤ (i : Int) := by omega
  have hi1 : (i : Int) < (s.size : Int) := by omega
  by_cases c0 : a0 < 128
  · replace hR : Hid (R = some (a0, 1)) := by show _ = _; rw [hR.out, if_pos c0, finN, if_pos (by omega)]
    go_enter Tryd.func131, Tryd.ntmps131
    go_wp2_with fail
    go_rounds 1
    all_goals first | (exfalso; omega) | (go_returns; exact ⟨⟨_, _, by rw [hR.out]; rfl, by first | exact leafS hR.out (by omega) (by omega) | exact fun a b h => leafS hR.out (by omega) (by omega) (a, b) h⟩, rfl⟩)
  replace hR : Hid _ := hid (hR.out.trans (if_neg c0))
  by_cases c1 : a0 < 192
  · replace hR : Hid (R = none) := by show _ = _; rw [hR.out, if_pos c1]
    go_enter Tryd.func131, Tryd.ntmps131
    go_wp2_with fail
    all_goals first | (exfalso; omega) | (go_returns; exact ⟨⟨_, _, by rw [hR.out]; rfl, by first | exact leafN hR.out | exact fun a b h => leafN hR.out (a, b) h⟩, rfl⟩)
  replace hR : Hid _ := hid (hR.out.trans (if_neg c1))
  by_cases c2 : a0 < 224
  · replace hR : Hid _ := hid (hR.out.trans (if_pos c2))
    by_cases d0 : s.size - i < 2
    · replace hR : Hid (R = none) := by show _ = _; rw [hR.out, if_pos (by omega)]
      have e0 : (s.size : Int) < (i : Int) + 2 := by omega
      go_enter Tryd.func131, Tryd.ntmps131
      go_wp2_with fail
      all_goals first | (exfalso; omega) | (go_returns; exact ⟨⟨_, _, by rw [hR.out]; rfl, by first | exact leafN hR.out | exact fun a b h => leafN hR.out (a, b) h⟩, rfl⟩)
    have e0 : (i : Int) + 2 ≤ (s.size : Int) := by omega
    have h1 := bt_at s (i + 1) (by omega)
    have hl1 := bt_lt s (i + 1)
    generalize bt s (i + 1) = a1 at *
    have t1 : ((i : Int) + 1).toNat = i + 1 := by omega
    by_cases d1l : a1 < 128
    · replace hR : Hid (R = none) := by show _ = _; rw [hR.out, if_pos (by omega)]
      go_enter Tryd.func131, Tryd.ntmps131
      go_wp2_with fail
      go_rounds 1
      all_goals first | (exfalso; omega) | (go_returns; exact ⟨⟨_, _, by rw [hR.out]; rfl, by first | exact leafN hR.out | exact fun a b h => leafN hR.out (a, b) h⟩, rfl⟩)

    by_cases d1g : 192 ≤ a1
    · replace hR : Hid (R = none) := by show _ = _; rw [hR.out, if_pos (by omega)]
      go_enter Tryd.func131, Tryd.ntmps131
      go_wp2_with fail
      go_rounds 1
      all_goals first | (exfalso; omega) | (go_returns; exact ⟨⟨_, _, by rw [hR.out]; rfl, by first | exact leafN hR.out | exact fun a b h => leafN hR.out (a, b) h⟩, rfl⟩)

    replace hR : Hid (R = finN ((a0 - 192) * 64 + a1 - 128) 128 2) := by show _ = _; rw [hR.out, if_neg (by omega)]
    obtain ⟨v, hv⟩ : ∃ v : Nat, v = ((a0 - 192) * 64 + a1 - 128) := ⟨_, rfl⟩
    rw [← hv] at hR
    have hvz : (v : Int) = (((a0 : Int) - 192) * 64 + (a1 : Int) - 128) := by omega
    by_cases dd : 128 ≤ v ∧ v ≤ 1114111 ∧ (v < 55296 ∨ 57343 < v)
    · replace hR : Hid (R = some (v, 2)) := by show _ = _; rw [hR.out, finN, if_pos dd]
      replace hvz := hid hvz
      replace hv := hid hv
      replace dd := hid dd
      go_enter Tryd.func131, Tryd.ntmps131
      go_wp2_with fail
      go_rounds 2
      all_goals first | (exfalso; have q1 := hvz.out; have q2 := dd.out; omega) | (go_returns; exact ⟨⟨_, _, congrArg (fun b => Ending.returned (Value.tuple #[_, _, Value.bool b])) (by rw [hR.out]; first | rfl | (have q1 := hvz.out; have q2 := dd.out; simp; omega)), by first | exact leafS hR.out (by have q1 := hvz.out; omega) (by omega) | exact fun a b h => leafS hR.out (by have q1 := hvz.out; omega) (by omega) (a, b) h⟩, rfl⟩)
    · replace hR : Hid (R = none) := by show _ = _; rw [hR.out, finN, if_neg dd]
      replace hvz := hid hvz
      replace hv := hid hv
      replace dd := hid dd
      go_enter Tryd.func131, Tryd.ntmps131
      go_wp2_with fail
      go_rounds 2
      all_goals first | (exfalso; have q1 := hvz.out; have q2 := dd.out; omega) | (go_returns; exact ⟨⟨_, _, congrArg (fun b => Ending.returned (Value.tuple #[_, _, Value.bool b])) (by rw [hR.out]; first | rfl | (have q1 := hvz.out; have q2 := dd.out; simp; omega)), by first | exact leafN hR.out | exact fun a b h => leafN hR.out (a, b) h⟩, rfl⟩)
  replace hR : Hid _ := hid (hR.out.trans (if_neg c2))
  by_cases c3 : a0 < 240
  · replace hR : Hid _ := hid (hR.out.trans (if_pos c3))
    by_cases d0 : s.size - i < 3
    · replace hR : Hid (R = none) := by show _ = _; rw [hR.out, if_pos (by omega)]
      have e0 : (s.size : Int) < (i : Int) + 3 := by omega
      go_enter Tryd.func131, Tryd.ntmps131
      go_wp2_with fail
      all_goals first | (exfalso; omega) | (go_returns; exact ⟨⟨_, _, by rw [hR.out]; rfl, by first | exact leafN hR.out | exact fun a b h => leafN hR.out (a, b) h⟩, rfl⟩)
    have e0 : (i : Int) + 3 ≤ (s.size : Int) := by omega
    have h1 := bt_at s (i + 1) (by omega)
    have hl1 := bt_lt s (i + 1)
    generalize bt s (i + 1) = a1 at *
    have t1 : ((i : Int) + 1).toNat = i + 1 := by omega
    have h2 := bt_at s (i + 2) (by omega)
    have hl2 := bt_lt s (i + 2)
    generalize bt s (i + 2) = a2 at *
    have t2 : ((i : Int) + 2).toNat = i + 2 := by omega
    by_cases d1l : a1 < 128
    · replace hR : Hid (R = none) := by show _ = _; rw [hR.out, if_pos (by omega)]
      go_enter Tryd.func131, Tryd.ntmps131
      go_wp2_with fail
      go_rounds 1
      all_goals first | (exfalso; omega) | (go_returns; exact ⟨⟨_, _, by rw [hR.out]; rfl, by first | exact leafN hR.out | exact fun a b h => leafN hR.out (a, b) h⟩, rfl⟩)

    by_cases d1g : 192 ≤ a1
    · replace hR : Hid (R = none) := by show _ = _; rw [hR.out, if_pos (by omega)]
      go_enter Tryd.func131, Tryd.ntmps131
      go_wp2_with fail
      go_rounds 1
      all_goals first | (exfalso; omega) | (go_returns; exact ⟨⟨_, _, by rw [hR.out]; rfl, by first | exact leafN hR.out | exact fun a b h => leafN hR.out (a, b) h⟩, rfl⟩)

    by_cases d2l : a2 < 128
    · replace hR : Hid (R = none) := by show _ = _; rw [hR.out, if_pos (by omega)]
      go_enter Tryd.func131, Tryd.ntmps131
      go_wp2_with fail
      go_rounds 2
      all_goals first | (exfalso; omega) | (go_returns; exact ⟨⟨_, _, by rw [hR.out]; rfl, by first | exact leafN hR.out | exact fun a b h => leafN hR.out (a, b) h⟩, rfl⟩)

    by_cases d2g : 192 ≤ a2
    · replace hR : Hid (R = none) := by show _ = _; rw [hR.out, if_pos (by omega)]
      go_enter Tryd.func131, Tryd.ntmps131
      go_wp2_with fail
      go_rounds 2
      all_goals first | (exfalso; omega) | (go_returns; exact ⟨⟨_, _, by rw [hR.out]; rfl, by first | exact leafN hR.out | exact fun a b h => leafN hR.out (a, b) h⟩, rfl⟩)

    replace hR : Hid (R = finN (((a0 - 224) * 64 + a1 - 128) * 64 + a2 - 128) 2048 3) := by show _ = _; rw [hR.out, if_neg (by omega)]
    obtain ⟨v, hv⟩ : ∃ v : Nat, v = (((a0 - 224) * 64 + a1 - 128) * 64 + a2 - 128) := ⟨_, rfl⟩
    rw [← hv] at hR
    have hvz : (v : Int) = ((((a0 : Int) - 224) * 64 + (a1 : Int) - 128) * 64 + (a2 : Int) - 128) := by omega
    by_cases dd : 2048 ≤ v ∧ v ≤ 1114111 ∧ (v < 55296 ∨ 57343 < v)
    · replace hR : Hid (R = some (v, 3)) := by show _ = _; rw [hR.out, finN, if_pos dd]
      replace hvz := hid hvz
      replace hv := hid hv
      replace dd := hid dd
      go_enter Tryd.func131, Tryd.ntmps131
      go_wp2_with fail
      go_rounds 3
      all_goals first | (exfalso; have q1 := hvz.out; have q2 := dd.out; omega) | (go_returns; exact ⟨⟨_, _, congrArg (fun b => Ending.returned (Value.tuple #[_, _, Value.bool b])) (by rw [hR.out]; first | rfl | (have q1 := hvz.out; have q2 := dd.out; simp; omega)), by first | exact leafS hR.out (by have q1 := hvz.out; omega) (by omega) | exact fun a b h => leafS hR.out (by have q1 := hvz.out; omega) (by omega) (a, b) h⟩, rfl⟩)
    · replace hR : Hid (R = none) := by show _ = _; rw [hR.out, finN, if_neg dd]
      replace hvz := hid hvz
      replace hv := hid hv
      replace dd := hid dd
      go_enter Tryd.func131, Tryd.ntmps131
      go_wp2_with fail
      go_rounds 3
      all_goals first | (exfalso; have q1 := hvz.out; have q2 := dd.out; omega) | (go_returns; exact ⟨⟨_, _, congrArg (fun b => Ending.returned (Value.tuple #[_, _, Value.bool b])) (by rw [hR.out]; first | rfl | (have q1 := hvz.out; have q2 := dd.out; simp; omega)), by first | exact leafN hR.out | exact fun a b h => leafN hR.out (a, b) h⟩, rfl⟩)
  replace hR : Hid _ := hid (hR.out.trans (if_neg c3))
  by_cases c4 : a0 < 248
  · replace hR : Hid _ := hid (hR.out.trans (if_pos c4))
    by_cases d0 : s.size - i < 4
    · replace hR : Hid (R = none) := by show _ = _; rw [hR.out, if_pos (by omega)]
      have e0 : (s.size : Int) < (i : Int) + 4 := by omega
      go_enter Tryd.func131, Tryd.ntmps131
      go_wp2_with fail
      all_goals first | (exfalso; omega) | (go_returns; exact ⟨⟨_, _, by rw [hR.out]; rfl, by first | exact leafN hR.out | exact fun a b h => leafN hR.out (a, b) h⟩, rfl⟩)
    have e0 : (i : Int) + 4 ≤ (s.size : Int) := by omega
    have h1 := bt_at s (i + 1) (by omega)
    have hl1 := bt_lt s (i + 1)
    generalize bt s (i + 1) = a1 at *
    have t1 : ((i : Int) + 1).toNat = i + 1 := by omega
    have h2 := bt_at s (i + 2) (by omega)
    have hl2 := bt_lt s (i + 2)
    generalize bt s (i + 2) = a2 at *
    have t2 : ((i : Int) + 2).toNat = i + 2 := by omega
    have h3 := bt_at s (i + 3) (by omega)
    have hl3 := bt_lt s (i + 3)
    generalize bt s (i + 3) = a3 at *
    have t3 : ((i : Int) + 3).toNat = i + 3 := by omega
    by_cases d1l : a1 < 128
    · replace hR : Hid (R = none) := by show _ = _; rw [hR.out, if_pos (by omega)]
      go_enter Tryd.func131, Tryd.ntmps131
      go_wp2_with fail
      go_rounds 1
      all_goals first | (exfalso; omega) | (go_returns; exact ⟨⟨_, _, by rw [hR.out]; rfl, by first | exact leafN hR.out | exact fun a b h => leafN hR.out (a, b) h⟩, rfl⟩)

    by_cases d1g : 192 ≤ a1
    · replace hR : Hid (R = none) := by show _ = _; rw [hR.out, if_pos (by omega)]
      go_enter Tryd.func131, Tryd.ntmps131
      go_wp2_with fail
      go_rounds 1
      all_goals first | (exfalso; omega) | (go_returns; exact ⟨⟨_, _, by rw [hR.out]; rfl, by first | exact leafN hR.out | exact fun a b h => leafN hR.out (a, b) h⟩, rfl⟩)

    by_cases d2l : a2 < 128
    · replace hR : Hid (R = none) := by show _ = _; rw [hR.out, if_pos (by omega)]
      go_enter Tryd.func131, Tryd.ntmps131
      go_wp2_with fail
      go_rounds 2
      all_goals first | (exfalso; omega) | (go_returns; exact ⟨⟨_, _, by rw [hR.out]; rfl, by first | exact leafN hR.out | exact fun a b h => leafN hR.out (a, b) h⟩, rfl⟩)

    by_cases d2g : 192 ≤ a2
    · replace hR : Hid (R = none) := by show _ = _; rw [hR.out, if_pos (by omega)]
      go_enter Tryd.func131, Tryd.ntmps131
      go_wp2_with fail
      go_rounds 2
      all_goals first | (exfalso; omega) | (go_returns; exact ⟨⟨_, _, by rw [hR.out]; rfl, by first | exact leafN hR.out | exact fun a b h => leafN hR.out (a, b) h⟩, rfl⟩)

    by_cases d3l : a3 < 128
    · replace hR : Hid (R = none) := by show _ = _; rw [hR.out, if_pos (by omega)]
      go_enter Tryd.func131, Tryd.ntmps131
      go_wp2_with fail
      go_rounds 3
      all_goals first | (exfalso; omega) | (go_returns; exact ⟨⟨_, _, by rw [hR.out]; rfl, by first | exact leafN hR.out | exact fun a b h => leafN hR.out (a, b) h⟩, rfl⟩)

    by_cases d3g : 192 ≤ a3
    · replace hR : Hid (R = none) := by show _ = _; rw [hR.out, if_pos (by omega)]
      go_enter Tryd.func131, Tryd.ntmps131
      go_wp2_with fail
      go_rounds 3
      all_goals first | (exfalso; omega) | (go_returns; exact ⟨⟨_, _, by rw [hR.out]; rfl, by first | exact leafN hR.out | exact fun a b h => leafN hR.out (a, b) h⟩, rfl⟩)

    replace hR : Hid (R = finN ((((a0 - 240) * 64 + a1 - 128) * 64 + a2 - 128) * 64 + a3 - 128) 65536 4) := by show _ = _; rw [hR.out, if_neg (by omega)]
    obtain ⟨v, hv⟩ : ∃ v : Nat, v = ((((a0 - 240) * 64 + a1 - 128) * 64 + a2 - 128) * 64 + a3 - 128) := ⟨_, rfl⟩
    rw [← hv] at hR
    have hvz : (v : Int) = (((((a0 : Int) - 240) * 64 + (a1 : Int) - 128) * 64 + (a2 : Int) - 128) * 64 + (a3 : Int) - 128) := by omega
    by_cases dd : 65536 ≤ v ∧ v ≤ 1114111 ∧ (v < 55296 ∨ 57343 < v)
    · replace hR : Hid (R = some (v, 4)) := by show _ = _; rw [hR.out, finN, if_pos dd]
      replace hvz := hid hvz
      replace hv := hid hv
      replace dd := hid dd
      go_enter Tryd.func131, Tryd.ntmps131
      go_wp2_with fail
      go_rounds 4
      all_goals first | (exfalso; have q1 := hvz.out; have q2 := dd.out; omega) | (go_returns; exact ⟨⟨_, _, congrArg (fun b => Ending.returned (Value.tuple #[_, _, Value.bool b])) (by rw [hR.out]; first | rfl | (have q1 := hvz.out; have q2 := dd.out; simp; omega)), by first | exact leafS hR.out (by have q1 := hvz.out; omega) (by omega) | exact fun a b h => leafS hR.out (by have q1 := hvz.out; omega) (by omega) (a, b) h⟩, rfl⟩)
    · replace hR : Hid (R = none) := by show _ = _; rw [hR.out, finN, if_neg dd]
      replace hvz := hid hvz
      replace hv := hid hv
      replace dd := hid dd
      go_enter Tryd.func131, Tryd.ntmps131
      go_wp2_with fail
      go_rounds 4
      all_goals first | (exfalso; have q1 := hvz.out; have q2 := dd.out; omega) | (go_returns; exact ⟨⟨_, _, congrArg (fun b => Ending.returned (Value.tuple #[_, _, Value.bool b])) (by rw [hR.out]; first | rfl | (have q1 := hvz.out; have q2 := dd.out; simp; omega)), by first | exact leafN hR.out | exact fun a b h => leafN hR.out (a, b) h⟩, rfl⟩)
  replace hR : Hid _ := hid (hR.out.trans (if_neg c4))
  replace hR : Hid (R = none) := hR
  go_enter Tryd.func131, Tryd.ntmps131
  go_wp2_with fail
  all_goals first | (exfalso; omega) | (go_returns; exact ⟨⟨_, _, by rw [hR.out]; rfl, by first | exact leafN hR.out | exact fun a b h => leafN hR.out (a, b) h⟩, rfl⟩)

end Go.Proofs.YtihcegakghmdfaaDoor
