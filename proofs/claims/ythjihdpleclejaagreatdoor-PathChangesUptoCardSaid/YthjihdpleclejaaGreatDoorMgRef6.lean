/-
  Walks: the reference's Next.
  Walks: the reference's Runes, Valid.
  Walks: the reference's texts. Plain: a value's mass.
  Walks: the reference's Good, cmp, Strings, More, First.
-/
import Derived.Test.YthjihdpleclejaaGreatDoorMgShelfA
import Derived.Test.YthjihdpleclejaaGreatDoorMgRef2
import Derived.Test.YthjihdpleclejaaGreatDoorMgRef3
import Derived.Test.YthjihdpleclejaaGreatDoorMgRef1
import Derived.Test.YthjihdpleclejaaGreatDoorMgPlain
namespace Go.Proofs.YthjihdpleclejaaGreatDoor
open Go.RowKit Go.Proofs
def bt (s : ByteArray) (j : Nat) : Nat := (s.data.toList.getD j 0).toNat
theorem bt_lt (s : ByteArray) (j : Nat) : bt s j < 256 := UInt8.toNat_lt _
theorem bt_at (s : ByteArray) (j : Nat) (h : j < s.size) : (s[j]'h).toNat = bt s j := by
 unfold bt
 have h' : j < s.data.toList.length := by simpa using h
 simp [List.getD, List.getElem?_eq_getElem h']
 rfl
def nextS (s : ByteArray) (i : Nat) : Option (Nat × Nat) := nextN (s.size - i) (bt s i) (bt s (i + 1)) (bt s (i + 2)) (bt s (i + 3))
theorem leafN {R : Option (Nat × Nat)} {X Y : Int} {i : Nat} (h : R = none) : ∀ p : Nat × Nat, R = some p → X = p.1 ∧ Y = i + p.2 := by subst h; intro p hp; cases hp
theorem leafS {R : Option (Nat × Nat)} {X Y : Int} {i v sz : Nat} (h : R = some (v, sz)) (hx : X = v) (hy : Y = i + sz) : ∀ p : Nat × Nat, R = some p → X = p.1 ∧ Y = i + p.2 := by
 subst h
 intro p hp
 obtain rfl := Option.some.inj hp
 exact ⟨hx, hy⟩
set_option maxRecDepth 100000 in
set_option maxHeartbeats 8000000 in
theorem next_calls (s : ByteArray) (hs : s.size ≤ 140737488355328) (i : Nat) (hi : i < s.size) (w : World) : Calls Tryz.prog 108 #[.string s, .int .i64 i] w fun e w' =>
  (∃ x y : Int, e = .returned (.tuple #[.int .i64 x, .int .i64 y, .bool (nextS s i).isSome]) ∧ ∀ p, nextS s i = some p → x = p.1 ∧ y = i + p.2) ∧ w = w' := by
 have h0 := bt_at s i hi
 have hl0 := bt_lt s i
 obtain ⟨R, hR⟩ : ∃ R, R = nextS s i := ⟨_, rfl⟩
 rw [← hR]
 unfold nextS nextN at hR
 generalize bt s i = a0 at *
 replace hR := hid hR
 have hi0 : (0 : Int) ≤ (i : Int) := by omega
 have hi1 : (i : Int) < (s.size : Int) := by omega
 by_cases c0 : a0 < 128
 ·replace hR : Hid (R = some (a0, 1)) := by show _ = _; rw [hR.out, if_pos c0, finN, if_pos (by omega)]
  go_enter Tryz.func108, Tryz.ntmps108
  go_wp2_with fail
  go_rounds 1
  all_goals first | (exfalso; omega) | (go_returns; exact ⟨⟨_, _, by rw [hR.out]; rfl, by first | exact leafS hR.out (by omega) (by omega) | exact fun a b h => leafS hR.out (by omega) (by omega) (a, b) h⟩, rfl⟩)
 replace hR : Hid _ := hid (hR.out.trans (if_neg c0))
 by_cases c1 : a0 < 192
 ·replace hR : Hid (R = none) := by show _ = _; rw [hR.out, if_pos c1]
  go_enter Tryz.func108, Tryz.ntmps108
  go_wp2_with fail
  all_goals first | (exfalso; omega) | (go_returns; exact ⟨⟨_, _, by rw [hR.out]; rfl, by first | exact leafN hR.out | exact fun a b h => leafN hR.out (a, b) h⟩, rfl⟩)
 replace hR : Hid _ := hid (hR.out.trans (if_neg c1))
 by_cases c2 : a0 < 224
 ·replace hR : Hid _ := hid (hR.out.trans (if_pos c2))
  by_cases d0 : s.size - i < 2
  ·replace hR : Hid (R = none) := by show _ = _; rw [hR.out, if_pos (by omega)]
   have e0 : (s.size : Int) < (i : Int) + 2 := by omega
   go_enter Tryz.func108, Tryz.ntmps108
   go_wp2_with fail
   all_goals first | (exfalso; omega) | (go_returns; exact ⟨⟨_, _, by rw [hR.out]; rfl, by first | exact leafN hR.out | exact fun a b h => leafN hR.out (a, b) h⟩, rfl⟩)
  have e0 : (i : Int) + 2 ≤ (s.size : Int) := by omega
  have h1 := bt_at s (i + 1) (by omega)
  have hl1 := bt_lt s (i + 1)
  generalize bt s (i + 1) = a1 at *
  have t1 : ((i : Int) + 1).toNat = i + 1 := by omega
  by_cases d1l : a1 < 128
  ·replace hR : Hid (R = none) := by show _ = _; rw [hR.out, if_pos (by omega)]
   go_enter Tryz.func108, Tryz.ntmps108
   go_wp2_with fail
   go_rounds 1
   all_goals first | (exfalso; omega) | (go_returns; exact ⟨⟨_, _, by rw [hR.out]; rfl, by first | exact leafN hR.out | exact fun a b h => leafN hR.out (a, b) h⟩, rfl⟩)
  by_cases d1g : 192 ≤ a1
  ·replace hR : Hid (R = none) := by show _ = _; rw [hR.out, if_pos (by omega)]
   go_enter Tryz.func108, Tryz.ntmps108
   go_wp2_with fail
   go_rounds 1
   all_goals first | (exfalso; omega) | (go_returns; exact ⟨⟨_, _, by rw [hR.out]; rfl, by first | exact leafN hR.out | exact fun a b h => leafN hR.out (a, b) h⟩, rfl⟩)
  replace hR : Hid (R = finN ((a0 - 192) * 64 + a1 - 128) 128 2) := by show _ = _; rw [hR.out, if_neg (by omega)]
  obtain ⟨v, hv⟩ : ∃ v : Nat, v = ((a0 - 192) * 64 + a1 - 128) := ⟨_, rfl⟩
  rw [← hv] at hR
  have hvz : (v : Int) = (((a0 : Int) - 192) * 64 + (a1 : Int) - 128) := by omega
  by_cases dd : 128 ≤ v ∧ v ≤ 1114111 ∧ (v < 55296 ∨ 57343 < v)
  ·replace hR : Hid (R = some (v, 2)) := by show _ = _; rw [hR.out, finN, if_pos dd]
   replace hvz := hid hvz
   replace hv := hid hv
   replace dd := hid dd
   go_enter Tryz.func108, Tryz.ntmps108
   go_wp2_with fail
   go_rounds 2
   all_goals first | (exfalso; have q1 := hvz.out; have q2 := dd.out; omega) | (go_returns; exact ⟨⟨_, _, congrArg (fun b => Ending.returned (Value.tuple #[_, _, Value.bool b])) (by rw [hR.out]; first | rfl | (have q1 := hvz.out; have q2 := dd.out; simp; omega)), by first | exact leafS hR.out (by have q1 := hvz.out; omega) (by omega) | exact fun a b h => leafS hR.out (by have q1 := hvz.out; omega) (by omega) (a, b) h⟩, rfl⟩)
  ·replace hR : Hid (R = none) := by show _ = _; rw [hR.out, finN, if_neg dd]
   replace hvz := hid hvz
   replace hv := hid hv
   replace dd := hid dd
   go_enter Tryz.func108, Tryz.ntmps108
   go_wp2_with fail
   go_rounds 2
   all_goals first | (exfalso; have q1 := hvz.out; have q2 := dd.out; omega) | (go_returns; exact ⟨⟨_, _, congrArg (fun b => Ending.returned (Value.tuple #[_, _, Value.bool b])) (by rw [hR.out]; first | rfl | (have q1 := hvz.out; have q2 := dd.out; simp; omega)), by first | exact leafN hR.out | exact fun a b h => leafN hR.out (a, b) h⟩, rfl⟩)
 replace hR : Hid _ := hid (hR.out.trans (if_neg c2))
 by_cases c3 : a0 < 240
 ·replace hR : Hid _ := hid (hR.out.trans (if_pos c3))
  by_cases d0 : s.size - i < 3
  ·replace hR : Hid (R = none) := by show _ = _; rw [hR.out, if_pos (by omega)]
   have e0 : (s.size : Int) < (i : Int) + 3 := by omega
   go_enter Tryz.func108, Tryz.ntmps108
   go_wp2_with fail
   all_goals first | (exfalso; omega) | (go_returns; exact ⟨⟨_, _, by rw [hR.out]; rfl, by first | exact leafN hR.out | exact fun a b h => leafN hR.out (a, b) h⟩, rfl⟩)
  have e0 : (i : Int) + 3 ≤ (s.size : Int) := by omega
  have h1 := bt_at s (i + 1) (by omega)
  have hl1 := bt_lt s (i + 1)
  generalize bt s (i + 1) = a1 at *
  have t1 : ((i : Int) + 1).toNat = i + 1 := by omega
  have h2 := bt_at s (i + 2) (by omega)
  have hl2 := bt_lt s (i + 2)
  generalize bt s (i + 2) = a2 at *
  have t2 : ((i : Int) + 2).toNat = i + 2 := by omega
  by_cases d1l : a1 < 128
  ·replace hR : Hid (R = none) := by show _ = _; rw [hR.out, if_pos (by omega)]
   go_enter Tryz.func108, Tryz.ntmps108
   go_wp2_with fail
   go_rounds 1
   all_goals first | (exfalso; omega) | (go_returns; exact ⟨⟨_, _, by rw [hR.out]; rfl, by first | exact leafN hR.out | exact fun a b h => leafN hR.out (a, b) h⟩, rfl⟩)
  by_cases d1g : 192 ≤ a1
  ·replace hR : Hid (R = none) := by show _ = _; rw [hR.out, if_pos (by omega)]
   go_enter Tryz.func108, Tryz.ntmps108
   go_wp2_with fail
   go_rounds 1
   all_goals first | (exfalso; omega) | (go_returns; exact ⟨⟨_, _, by rw [hR.out]; rfl, by first | exact leafN hR.out | exact fun a b h => leafN hR.out (a, b) h⟩, rfl⟩)
  by_cases d2l : a2 < 128
  ·replace hR : Hid (R = none) := by show _ = _; rw [hR.out, if_pos (by omega)]
   go_enter Tryz.func108, Tryz.ntmps108
   go_wp2_with fail
   go_rounds 2
   all_goals first | (exfalso; omega) | (go_returns; exact ⟨⟨_, _, by rw [hR.out]; rfl, by first | exact leafN hR.out | exact fun a b h => leafN hR.out (a, b) h⟩, rfl⟩)
  by_cases d2g : 192 ≤ a2
  ·replace hR : Hid (R = none) := by show _ = _; rw [hR.out, if_pos (by omega)]
   go_enter Tryz.func108, Tryz.ntmps108
   go_wp2_with fail
   go_rounds 2
   all_goals first | (exfalso; omega) | (go_returns; exact ⟨⟨_, _, by rw [hR.out]; rfl, by first | exact leafN hR.out | exact fun a b h => leafN hR.out (a, b) h⟩, rfl⟩)
  replace hR : Hid (R = finN (((a0 - 224) * 64 + a1 - 128) * 64 + a2 - 128) 2048 3) := by show _ = _; rw [hR.out, if_neg (by omega)]
  obtain ⟨v, hv⟩ : ∃ v : Nat, v = (((a0 - 224) * 64 + a1 - 128) * 64 + a2 - 128) := ⟨_, rfl⟩
  rw [← hv] at hR
  have hvz : (v : Int) = ((((a0 : Int) - 224) * 64 + (a1 : Int) - 128) * 64 + (a2 : Int) - 128) := by omega
  by_cases dd : 2048 ≤ v ∧ v ≤ 1114111 ∧ (v < 55296 ∨ 57343 < v)
  ·replace hR : Hid (R = some (v, 3)) := by show _ = _; rw [hR.out, finN, if_pos dd]
   replace hvz := hid hvz
   replace hv := hid hv
   replace dd := hid dd
   go_enter Tryz.func108, Tryz.ntmps108
   go_wp2_with fail
   go_rounds 3
   all_goals first | (exfalso; have q1 := hvz.out; have q2 := dd.out; omega) | (go_returns; exact ⟨⟨_, _, congrArg (fun b => Ending.returned (Value.tuple #[_, _, Value.bool b])) (by rw [hR.out]; first | rfl | (have q1 := hvz.out; have q2 := dd.out; simp; omega)), by first | exact leafS hR.out (by have q1 := hvz.out; omega) (by omega) | exact fun a b h => leafS hR.out (by have q1 := hvz.out; omega) (by omega) (a, b) h⟩, rfl⟩)
  ·replace hR : Hid (R = none) := by show _ = _; rw [hR.out, finN, if_neg dd]
   replace hvz := hid hvz
   replace hv := hid hv
   replace dd := hid dd
   go_enter Tryz.func108, Tryz.ntmps108
   go_wp2_with fail
   go_rounds 3
   all_goals first | (exfalso; have q1 := hvz.out; have q2 := dd.out; omega) | (go_returns; exact ⟨⟨_, _, congrArg (fun b => Ending.returned (Value.tuple #[_, _, Value.bool b])) (by rw [hR.out]; first | rfl | (have q1 := hvz.out; have q2 := dd.out; simp; omega)), by first | exact leafN hR.out | exact fun a b h => leafN hR.out (a, b) h⟩, rfl⟩)
 replace hR : Hid _ := hid (hR.out.trans (if_neg c3))
 by_cases c4 : a0 < 248
 ·replace hR : Hid _ := hid (hR.out.trans (if_pos c4))
  by_cases d0 : s.size - i < 4
  ·replace hR : Hid (R = none) := by show _ = _; rw [hR.out, if_pos (by omega)]
   have e0 : (s.size : Int) < (i : Int) + 4 := by omega
   go_enter Tryz.func108, Tryz.ntmps108
   go_wp2_with fail
   all_goals first | (exfalso; omega) | (go_returns; exact ⟨⟨_, _, by rw [hR.out]; rfl, by first | exact leafN hR.out | exact fun a b h => leafN hR.out (a, b) h⟩, rfl⟩)
  have e0 : (i : Int) + 4 ≤ (s.size : Int) := by omega
  have h1 := bt_at s (i + 1) (by omega)
  have hl1 := bt_lt s (i + 1)
  generalize bt s (i + 1) = a1 at *
  have t1 : ((i : Int) + 1).toNat = i + 1 := by omega
  have h2 := bt_at s (i + 2) (by omega)
  have hl2 := bt_lt s (i + 2)
  generalize bt s (i + 2) = a2 at *
  have t2 : ((i : Int) + 2).toNat = i + 2 := by omega
  have h3 := bt_at s (i + 3) (by omega)
  have hl3 := bt_lt s (i + 3)
  generalize bt s (i + 3) = a3 at *
  have t3 : ((i : Int) + 3).toNat = i + 3 := by omega
  by_cases d1l : a1 < 128
  ·replace hR : Hid (R = none) := by show _ = _; rw [hR.out, if_pos (by omega)]
   go_enter Tryz.func108, Tryz.ntmps108
   go_wp2_with fail
   go_rounds 1
   all_goals first | (exfalso; omega) | (go_returns; exact ⟨⟨_, _, by rw [hR.out]; rfl, by first | exact leafN hR.out | exact fun a b h => leafN hR.out (a, b) h⟩, rfl⟩)
  by_cases d1g : 192 ≤ a1
  ·replace hR : Hid (R = none) := by show _ = _; rw [hR.out, if_pos (by omega)]
   go_enter Tryz.func108, Tryz.ntmps108
   go_wp2_with fail
   go_rounds 1
   all_goals first | (exfalso; omega) | (go_returns; exact ⟨⟨_, _, by rw [hR.out]; rfl, by first | exact leafN hR.out | exact fun a b h => leafN hR.out (a, b) h⟩, rfl⟩)
  by_cases d2l : a2 < 128
  ·replace hR : Hid (R = none) := by show _ = _; rw [hR.out, if_pos (by omega)]
   go_enter Tryz.func108, Tryz.ntmps108
   go_wp2_with fail
   go_rounds 2
   all_goals first | (exfalso; omega) | (go_returns; exact ⟨⟨_, _, by rw [hR.out]; rfl, by first | exact leafN hR.out | exact fun a b h => leafN hR.out (a, b) h⟩, rfl⟩)
  by_cases d2g : 192 ≤ a2
  ·replace hR : Hid (R = none) := by show _ = _; rw [hR.out, if_pos (by omega)]
   go_enter Tryz.func108, Tryz.ntmps108
   go_wp2_with fail
   go_rounds 2
   all_goals first | (exfalso; omega) | (go_returns; exact ⟨⟨_, _, by rw [hR.out]; rfl, by first | exact leafN hR.out | exact fun a b h => leafN hR.out (a, b) h⟩, rfl⟩)
  by_cases d3l : a3 < 128
  ·replace hR : Hid (R = none) := by show _ = _; rw [hR.out, if_pos (by omega)]
   go_enter Tryz.func108, Tryz.ntmps108
   go_wp2_with fail
   go_rounds 3
   all_goals first | (exfalso; omega) | (go_returns; exact ⟨⟨_, _, by rw [hR.out]; rfl, by first | exact leafN hR.out | exact fun a b h => leafN hR.out (a, b) h⟩, rfl⟩)
  by_cases d3g : 192 ≤ a3
  ·replace hR : Hid (R = none) := by show _ = _; rw [hR.out, if_pos (by omega)]
   go_enter Tryz.func108, Tryz.ntmps108
   go_wp2_with fail
   go_rounds 3
   all_goals first | (exfalso; omega) | (go_returns; exact ⟨⟨_, _, by rw [hR.out]; rfl, by first | exact leafN hR.out | exact fun a b h => leafN hR.out (a, b) h⟩, rfl⟩)
  replace hR : Hid (R = finN ((((a0 - 240) * 64 + a1 - 128) * 64 + a2 - 128) * 64 + a3 - 128) 65536 4) := by show _ = _; rw [hR.out, if_neg (by omega)]
  obtain ⟨v, hv⟩ : ∃ v : Nat, v = ((((a0 - 240) * 64 + a1 - 128) * 64 + a2 - 128) * 64 + a3 - 128) := ⟨_, rfl⟩
  rw [← hv] at hR
  have hvz : (v : Int) = (((((a0 : Int) - 240) * 64 + (a1 : Int) - 128) * 64 + (a2 : Int) - 128) * 64 + (a3 : Int) - 128) := by omega
  by_cases dd : 65536 ≤ v ∧ v ≤ 1114111 ∧ (v < 55296 ∨ 57343 < v)
  ·replace hR : Hid (R = some (v, 4)) := by show _ = _; rw [hR.out, finN, if_pos dd]
   replace hvz := hid hvz
   replace hv := hid hv
   replace dd := hid dd
   go_enter Tryz.func108, Tryz.ntmps108
   go_wp2_with fail
   go_rounds 4
   all_goals first | (exfalso; have q1 := hvz.out; have q2 := dd.out; omega) | (go_returns; exact ⟨⟨_, _, congrArg (fun b => Ending.returned (Value.tuple #[_, _, Value.bool b])) (by rw [hR.out]; first | rfl | (have q1 := hvz.out; have q2 := dd.out; simp; omega)), by first | exact leafS hR.out (by have q1 := hvz.out; omega) (by omega) | exact fun a b h => leafS hR.out (by have q1 := hvz.out; omega) (by omega) (a, b) h⟩, rfl⟩)
  ·replace hR : Hid (R = none) := by show _ = _; rw [hR.out, finN, if_neg dd]
   replace hvz := hid hvz
   replace hv := hid hv
   replace dd := hid dd
   go_enter Tryz.func108, Tryz.ntmps108
   go_wp2_with fail
   go_rounds 4
   all_goals first | (exfalso; have q1 := hvz.out; have q2 := dd.out; omega) | (go_returns; exact ⟨⟨_, _, congrArg (fun b => Ending.returned (Value.tuple #[_, _, Value.bool b])) (by rw [hR.out]; first | rfl | (have q1 := hvz.out; have q2 := dd.out; simp; omega)), by first | exact leafN hR.out | exact fun a b h => leafN hR.out (a, b) h⟩, rfl⟩)
 replace hR : Hid _ := hid (hR.out.trans (if_neg c4))
 replace hR : Hid (R = none) := hR
 go_enter Tryz.func108, Tryz.ntmps108
 go_wp2_with fail
 all_goals first | (exfalso; omega) | (go_returns; exact ⟨⟨_, _, by rw [hR.out]; rfl, by first | exact leafN hR.out | exact fun a b h => leafN hR.out (a, b) h⟩, rfl⟩)
end Go.Proofs.YthjihdpleclejaaGreatDoor
namespace Go.Proofs.YthjihdpleclejaaGreatDoor
open Go.RowKit Go.Proofs
theorem getD_drop (l : List UInt8) (i j : Nat) : (l.drop i).getD j 0 = l.getD (i + j) 0 := by simp [List.getD, List.getElem?_drop]
theorem nextS_step (s : ByteArray) (i : Nat) : nextS s i = stepD (s.data.toList.drop i) := by
 unfold nextS stepD bt
 rw [getD_drop, getD_drop, getD_drop, getD_drop, List.length_drop]
 simp
def rcells (rs : List Nat) : List Value := rs.map fun (v : Nat) => Value.int .i32 (v : Int)
theorem info_i32 : (Tryz.prog.info? 21).map (fun i => (i.zero, i.size, i.bytes)) = some (some (.int .i32 0), 1, 4) := by kernel_rfl
def RunesTold (s : ByteArray) (w : World) (e : Ending) (w' : World) : Prop :=
 ∃ v, e = .returned (.tuple #[v, .bool (runesD s.data.toList).isSome]) ∧ Below w.heap.size w w' ∧ (∀ rs, runesD s.data.toList = some rs → w'.ownsRow w.heap.size 21 1 v rs.length (rcells rs)) ∧ (runesD s.data.toList = none → v = .slice none 0 0)
set_option maxRecDepth 100000 in
set_option maxHeartbeats 2000000 in
theorem rrunes_calls (s : ByteArray) (hs : s.size ≤ 35184372088832) (w : World) : Calls Tryz.prog 100 #[.string s] w (RunesTold s w) := by
 obtain ⟨i0, hi, hz0, hz1, hz2⟩ := info_parts info_i32
 have hnx := hid (fun i hi w => next_calls s (by omega) i hi w)
 have hll : Hid (s.data.toList.length = s.size) := by show _ = _; simp
 go_enter Tryz.func100, Tryz.ntmps100
 go_wp2_with fail
 go_loopg [4, 5] s.size (fun g o a wr => ∃ (i : Nat) (done : List Nat), g + i = s.size ∧ a = .int .i64 i ∧ runesD s.data.toList = (runesD (s.data.toList.drop i)).map (done ++ ·) ∧ done.length ≤ i ∧ wr.ownsRow w.heap.size 21 1 o done.length (rcells done) ∧ Below w.heap.size w wr)
 case atStart => exact ⟨0, [], by omega, rfl, by simp, by simp, World.ownsRow_nil _ _ _ _, Below.refl _ _⟩
 case round =>
  obtain ⟨i, done, hg, rfl, hrd, hdl, hown, hb⟩ := hrel
  replace hrd := hid hrd
  by_cases hlt : i < s.size
  ·have hne : s.data.toList.drop i ≠ [] := by
    intro h
    have := congrArg List.length h
    rw [List.length_drop, hll.out] at this
    simp at this
    omega
   have hstep := hnx.out i hlt wr
   rw [nextS_step] at hstep
   cases hS : stepD (s.data.toList.drop i) with
   | none =>
    rw [hS] at hstep
    have hbad : Hid (runesD s.data.toList = none) := by show _ = _; rw [hrd.out, runesD_bad hne hS]; rfl
    clear hS
    go_wp2_with fail
    refine hstep.mono ?_
    rintro e w1 ⟨⟨x, y, rfl, _⟩, rfl⟩
    go_wp2_with fail
    go_returns
    exact ⟨_, by rw [hbad.out]; rfl, hb, fun rs h => (by rw [hbad.out] at h; cases h), fun _ => rfl⟩
   | some p =>
    obtain ⟨v, sz⟩ := p
    rw [hS] at hstep
    have hsz := stepD_some hS hne
    rw [List.length_drop, hll.out] at hsz
    have hok := hid (runesD_ok hne hS)
    clear hS
    go_wp2_with fail
    refine hstep.mono ?_
    rintro e w1 ⟨⟨x, y, rfl, hxy⟩, rfl⟩
    obtain ⟨hx, hy⟩ := hxy (v, sz) rfl
    have hx : x = (v : Int) := hx
    have hy : y = ((i + sz : Nat) : Int) := by rw [hy]; push_cast; rfl
    clear hxy
    subst hx hy
    go_wp2_with (first
     | (at_builtin; (refine wpList_append_own _ rfl _ _ 111 rfl w.heap.size 21 i0 (.int .i32 0) 1 4 Tryz.underlying111 hi hz0 hz1 hz2 rfl (by decide) _ done.length (rcells done) rfl (hown.alloc _) ⟨wr.heap.size, 0, none⟩ 1 1 [.int .i32 v] rfl rfl (cells_new wr _ rfl [.int .i32 v] _) (by intro u hu; simp at hu; subst hu; rfl) (by unfold maxLen; omega) (by omega) (Nat.le_trans hb.size (below_new _ _).size) ?_); intro v2 w2 hown2 hg2 _))
    go_roundg (s.size - (i + sz))
    case measure => omega
    case rel =>
     refine ⟨i + sz, done ++ [v], by omega, by go_num, ?_, by simp; omega, ?_, ?_⟩
     ·rw [hrd.out, hok.out, List.drop_drop]
      simp [Function.comp_def, Option.map_map]
     ·have : (done ++ [v]).length = done.length + 1 := by simp
      rw [this, show rcells (done ++ [v]) = rcells done ++ [.int .i32 v] by simp [rcells]]
      exact hown2
     ·exact (hb.alloc hb.size _).grown hg2 (Nat.le_trans hb.size (below_new _ _).size) (fun k hk => (hown.lt k hk).1)
  ·have hnil : s.data.toList.drop i = [] := List.drop_eq_nil_of_le (by rw [hll.out]; omega)
   have hgood : Hid (runesD s.data.toList = some done) := by show _ = _; rw [hrd.out, hnil, runesD_nil]; simp
   go_wp2_with fail
   go_returns
   refine ⟨_, by rw [hgood.out]; rfl, hb, fun rs h => ?_, fun h => by rw [hgood.out] at h; cases h⟩
   rw [hgood.out] at h
   obtain rfl := Option.some.inj h
   exact hown
theorem rvalid_calls (s : ByteArray) (hs : s.size ≤ 35184372088832) (w : World) : Calls Tryz.prog 87 #[.string s] w fun e w' => e = .returned (.bool (utf s)) ∧ Below w.heap.size w w' := by
 have hr := hid (rrunes_calls s hs)
 have he : Hid ((runesD s.data.toList).isSome = utf s) := runesD_valid _ _ rfl
 generalize utf s = U at *
 go_enter Tryz.func87, Tryz.ntmps87
 go_wp2_with fail
 refine (hr.out _).mono ?_
 rintro e w1 ⟨v, rfl, hb, _, _⟩
 rw [he.out]
 go_wp2_with fail
 go_ret
 exact ⟨rfl, hb⟩
end Go.Proofs.YthjihdpleclejaaGreatDoor
namespace Go.Proofs.YthjihdpleclejaaGreatDoor
open Go.RowKit Go.Proofs
theorem enc_le (V : PVal) : V.fits → V.enc.length ≤ V.mass := by
 induction V using PVal.ind with
 | h k n s l fn fv hl hf =>
  intro h
  simp only [PVal.fits, fitsL_iff, I64, Lim] at h
  obtain ⟨hk, hn, hs, hfn, hlen, hll, hfl, hL, hF⟩ := h
  have e1 : ∀ l : List PVal, (∀ x ∈ l, x.enc.length ≤ x.mass) → (encL l).length ≤ massL l := by
   intro l
   induction l with
   | nil => intro _; simp [encL]
   | cons y r ih =>
    intro h
    have := h y (by simp)
    have := ih (fun x hx => h x (by simp [hx]))
    simp only [encL, massL, List.length_append]
    omega
  have e2 : ∀ (fn : List ByteArray) (fv : List PVal), (∀ x ∈ fn, x.size ≤ 140737488355328) → (∀ x ∈ fv, x.enc.length ≤ x.mass) → (encF fn fv).length ≤ massF fn + massL fv := by
   intro fn
   induction fn with
   | nil => intro fv _ _; simp [encF]
   | cons a r ih =>
    intro fv hs h
    cases fv with
    | nil => simp [encF]
    | cons y r' =>
     have h1 := h y (by simp)
     have h2 := ih r' (fun x hx => hs x (by simp [hx])) (fun x hx => h x (by simp [hx]))
     have h3 := digits_le a.size (by have := hs a (by simp); omega)
     simp only [encF, massL, massF, List.length_append, varint_length]
     have : a.data.toList.length = a.size := by simp
     omega
  have h1 := e1 l (fun x hx => hl x hx (hL x hx))
  have h2 := e2 fn fv hfn (fun x hx => hf x hx (hF x hx))
  have d1 := digits_le (turned n) (turned_lt hn)
  have d2 := digits_le s.size (by omega)
  have d3 := digits_le l.length (by omega)
  have d4 := digits_le fv.length (by omega)
  have hsz : s.data.toList.length = s.size := by simp
  simp only [PVal.enc, PVal.mass, List.length_cons]
  split
  ·simp; omega
  split
  ·rw [varint_length]; omega
  split
  ·rw [List.length_append, varint_length]; omega
  split
  ·rw [List.length_append, varint_length]; omega
  split
  ·rw [List.length_append, varint_length]; omega
  ·simp; omega
set_option maxRecDepth 100000 in
set_option maxHeartbeats 4000000 in
theorem texts_calls : ∀ (V : PVal) (w : World) (cs : List Value), V.mass ≤ 1073741824 → Rd w (Now w) V cs →
  Calls Tryz.prog 59 #[.agg cs.toArray] w fun e w' => e = .returned (.bool (V.all spelledB)) ∧ Below w.heap.size w w' := by
 intro V
 induction hN : V.nodes using Nat.strongRecOn generalizing V with
 | _ N ih =>
 subst hN
 intro w cs hm hV
 have hd := all_parts spelledB V
 have hp := hid (fun w cs h => rparts_calls V w cs h)
 have hpn := nodes_parts V
 have hmp := hid (fun x hx => Nat.le_trans (parts_mass V x hx) hm)
 have hV0 := hid hV
 obtain ⟨O, hO⟩ : ∃ O, O = spelledB V := ⟨_, rfl⟩
 rw [← hO] at hd
 generalize V.parts = ps at *
 generalize V.all spelledB = A at *
 replace hd := hid hd
 obtain ⟨k, n, s, l, fn, fv⟩ := V
 obtain ⟨la, lc, fa, fc, rfl, hk, hn, hs, hlc, hlm, hfc, hfm, hL, hF⟩ := hV.inv
 have hfl := hid hF.1
 have hF0 := hid hF
 replace hO := hid hO
 have hFalse : Hid (O = false → A = false) := fun h => by rw [hd.out, h]; rfl
 have hsm : s.size ≤ 1073741824 := by simp only [PVal.mass] at hm; omega
 have hmn : Hid (∀ x ∈ fn, x.size ≤ 1073741824) := fun x hx => by
  have := massF_mem hx
  simp only [PVal.mass] at hm
  omega
 clear hm
 have hlim := hF.lim
 obtain ⟨us, hus⟩ : ∃ b, b = utf s := ⟨_, rfl⟩
 have hvs := hid (fun w => rvalid_calls s (by omega) w)
 have hOf : Hid (O = (utf s && fn.all utf)) := hO.out
 rw [← hus] at hvs hOf
 clear hus
 go_enter Tryz.func59, Tryz.ntmps59
 go_wp2_with fail
 refine (hvs.out _).mono ?_
 rintro e w0 ⟨rfl, hb0⟩
 cases us with
 | false =>
  have hA := hid (hFalse.out (hOf.out.trans (Bool.false_and _)))
  go_wp2_with fail
  go_ret
  exact ⟨by rw [hA.out]; rfl, (below_new _ _).step hb0⟩
 | true =>
  replace hOf : Hid (O = fn.all utf) := hOf.out.trans (Bool.true_and _)
  go_wp2_with fail
  go_loopg [3] fv.length (fun g i wr => ∃ m : Nat, (g + m = fv.length) ∧ i = .int .i64 m ∧ (fn.take m).all utf = true ∧ Below (w.alloc (.cells #[.int .i64 k, .int .i64 n, .string s, .slice la l.length lc, .slice fa fv.length fc] 25)).heap.size (w.alloc (.cells #[.int .i64 k, .int .i64 n, .string s, .slice la l.length lc, .slice fa fv.length fc] 25)) wr)
  case atStart => exact ⟨0, by omega, rfl, rfl, hb0⟩
  case round =>
   obtain ⟨m, hj, rfl, htk, hbr⟩ := hrel
   have hpr := hF0.out.later ((below_new _ _).step hbr)
   replace htk := hid htk
   by_cases hlt : m < fv.length
   ·obtain ⟨x, hx⟩ : ∃ x, fv[m]? = some x := ⟨_, List.getElem?_eq_getElem hlt⟩
    obtain ⟨nm, hnm⟩ : ∃ nm, fn[m]? = some nm := ⟨_, List.getElem?_eq_getElem (by rw [hfl.out]; exact hlt)⟩
    obtain ⟨b, off, xs, rfl, hxS, hxc, hxr, hnz⟩ := hpr.at_ hnm hx
    have c4 := box_cell (j := 4) hbr rfl
    have c0 : wr.cell? ⟨b, off + m * 6, none⟩ = some (.string nm) := hxc 0 _ rfl
    clear hxc hx
    have hns := hmn.out nm (List.mem_of_getElem? hnm)
    replace hnm := hid hnm
    obtain ⟨un, hun⟩ : ∃ b, b = utf nm := ⟨_, rfl⟩
    have hvn := hid (fun w => rvalid_calls nm (by omega) w)
    rw [← hun] at hvn
    replace hun := hid hun
    go_wp2_with fail
    refine (hvn.out _).mono ?_
    rintro e w3 ⟨rfl, hb3⟩
    cases un with
    | false =>
     have hA := hid (hFalse.out (hOf.out.trans (all_no hnm.out hun.out.symm)))
     go_wp2_with fail
     go_ret
     exact ⟨by rw [hA.out]; rfl, (below_new _ _).step (hbr.step hb3)⟩
    | true =>
     go_wp2_with fail
     go_roundg (fv.length - (m + 1))
     case measure => omega
     case rel => exact ⟨m + 1, by omega, by go_num, by rw [take_succ_of hnm.out, List.all_append, htk.out]; simp [← hun.out], hbr.step hb3⟩
   ·have hOt : Hid (O = true) := by
     have h1 : fn.take m = fn := List.take_of_length_le (by rw [hfl.out]; omega)
     rw [h1] at htk
     exact hOf.out.trans htk.out
    have A0 := box_cell (j := 0) hbr rfl
    have A1 := box_cell (j := 1) hbr rfl
    have A2 := box_cell (j := 2) hbr rfl
    have A3 := box_cell (j := 3) hbr rfl
    have A4 := box_cell (j := 4) hbr rfl
    have hB := hid ((below_new _ _).step hbr)
    go_wp2_with fail
    refine (hp.out _ _ (hV0.out.later hB.out)).mono ?_
    rintro e w1 ⟨pa, pc, rfl, hps, hb1⟩
    have hB1 := hid (hB.out.step hb1)
    have hpl := hps.lim
    clear A0 A1 A2 A3 A4
    go_wp2_with fail
    go_loopg [5] ps.length (fun g i wr => ∃ j : Nat, g + j = ps.length ∧ i = .int .i64 j ∧ (ps.take j).all (·.all spelledB) = true ∧ Below w1.heap.size w1 wr)
    case atStart => exact ⟨0, by omega, rfl, rfl, Below.refl _ _⟩
    case round =>
     obtain ⟨j, hj, rfl, htk, hbr2⟩ := hrel
     replace htk := hid htk
     have hpr := hps.later hbr2
     by_cases hlt : j < ps.length
     ·obtain ⟨x, hx⟩ : ∃ x, ps[j]? = some x := ⟨_, List.getElem?_eq_getElem hlt⟩
      obtain ⟨b, off, xs, rfl, hxS, hxc, hxr⟩ := hpr.at_ hx
      have hxn := nodes_mem (List.mem_of_getElem? hx)
      obtain ⟨T, hT⟩ : ∃ T, T = x.all spelledB := ⟨_, rfl⟩
      have hcx := hid (fun w cs h => ih x.nodes (by omega) x rfl w cs (hmp.out x (List.mem_of_getElem? hx)) h)
      rw [← hT] at hcx
      replace hT := hid hT
      replace hx := hid hx
      obtain ⟨xk, xn, xsx, xl, xfn, xfv⟩ := x
      obtain ⟨xla, xlc, xfa, xfc, rfl, _⟩ := hxr.inv
      obtain ⟨c0, c1, c2, c3, c4⟩ := five hxc
      clear hxc
      go_wp2_with fail
      refine (hcx.out _ _ hxr).mono ?_
      rintro e w2 ⟨rfl, hb2⟩
      cases T with
      | false =>
       have hA : Hid (A = false) := by
        show _ = _
        rw [hd.out, all_no hx.out hT.out.symm, Bool.and_false]
       go_wp2_with fail
       go_ret
       exact ⟨by rw [hA.out]; rfl, hB1.out.step (hbr2.step hb2)⟩
      | true =>
       go_wp2_with fail
       go_roundg (ps.length - (j + 1))
       case measure => omega
       case rel => exact ⟨j + 1, by omega, by go_num, by rw [take_succ_of hx.out, List.all_append, htk.out]; simp [← hT.out], hbr2.step hb2⟩
     ·have hA : Hid (A = true) := by
       have : j = ps.length := by omega
       subst this
       have h := htk.out
       rw [List.take_length] at h
       show _ = _
       rw [hd.out, h, hOt.out]; rfl
      go_wp2_with fail
      go_ret
      exact ⟨by rw [hA.out]; rfl, hB1.out.step hbr2⟩
end Go.Proofs.YthjihdpleclejaaGreatDoor
namespace Go.Proofs.YthjihdpleclejaaGreatDoor
open Go.RowKit Go.Proofs
theorem size_enc (V : PVal) : V.fits → V.size = V.enc.length := by
 induction V using PVal.ind with
 | h k n s l fn fv hl hf =>
  intro h
  simp only [PVal.fits, fitsL_iff] at h
  obtain ⟨hk, hn, hs, hfn, hlen, hll, hfl, hL, hF⟩ := h
  have e1 : ∀ l : List PVal, (∀ x ∈ l, x.size = x.enc.length) → sizeL l = (encL l).length := by
   intro l
   induction l with
   | nil => intro _; rfl
   | cons y r ih =>
    intro h
    have := h y (by simp)
    have := ih (fun x hx => h x (by simp [hx]))
    simp only [encL, sizeL, List.length_append]
    omega
  have e2 : ∀ (fn : List ByteArray) (fv : List PVal), fn.length = fv.length → (∀ x ∈ fv, x.size = x.enc.length) → namesSize fn + sizeL fv = (encF fn fv).length := by
   intro fn
   induction fn with
   | nil =>
    intro fv h0 _
    cases fv with
    | nil => rfl
    | cons _ _ => simp at h0
   | cons a r ih =>
    intro fv h0 h
    cases fv with
    | nil => simp at h0
    | cons y r' =>
     have h1 := h y (by simp)
     have h2 := ih r' (by simpa using h0) (fun x hx => h x (by simp [hx]))
     simp only [encF, sizeL, namesSize, List.length_append, varint_length]
     have : a.data.toList.length = a.size := by simp
     omega
  have h1 := e1 l (fun x hx => hl x hx (hL x hx))
  have h2 := e2 fn fv hlen (fun x hx => hf x hx (hF x hx))
  have hsz : s.data.toList.length = s.size := by simp
  simp only [PVal.enc, PVal.size, List.length_cons]
  split
  ·simp
  split
  ·rw [varint_length]; omega
  split
  ·rw [List.length_append, varint_length]; omega
  split
  ·rw [List.length_append, varint_length]; omega
  split
  ·rw [List.length_append, varint_length]; omega
  ·simp
set_option maxRecDepth 100000 in
set_option maxHeartbeats 4000000 in
theorem rgood_big (V : PVal) (hN : V.nodes ≤ 1000000000000) (hm : V.mass ≤ 1073741824) (w : World) (cs : List Value) (hV : Rd w (Now w) V cs) :
  Calls Tryz.prog 34 #[.agg cs.toArray] w fun e w' => e = .returned (.int .i64 V.good) ∧ Below w.heap.size w w' := by
 have g1 := hid (fun w cs h => shape_calls V w cs h)
 have g2 := hid (fun w cs h => texts_calls V w cs hm h)
 have g3 := hid (fun w cs h => rfew_calls V w cs h)
 have g4 := hid (fun w cs h => rdepth_big V w cs hN h)
 have hel := enc_le V hV.fits
 have g5 := hid (fun w cs h => rbytes_calls V w cs (by omega) h)
 have hse := size_enc V hV.fits
 have hd0 := depth_le_nodes V
 have hR : V.good = if V.all formedB = false then 4 else if V.all spelledB = false then 11 else if V.all fewB = false then 15 else if 8 < V.depth then 3 else if 2048 < V.enc.length then 2 else 0 := by rw [← hse]; rfl
 have hen : V.enc ≠ [] := by obtain ⟨k, n, s, l, fn, fv⟩ := V; simp [PVal.enc]
 generalize V.good = R at *
 generalize V.all formedB = b1 at *
 generalize V.all spelledB = b2 at *
 generalize V.all fewB = b3 at *
 generalize V.depth = d at *
 generalize V.enc = en at *
 replace hR := hid hR
 replace hen := hid hen
 clear hse
 have hV0 := hid hV
 obtain ⟨k, n, s, l, fn, fv⟩ := V
 obtain ⟨la, lc, fa, fc, rfl, _⟩ := hV.inv
 clear hV
 go_enter Tryz.func34, Tryz.ntmps34
 go_wp2_with fail
 refine (g1.out _ _ (hV0.out.later (below_new _ _))).mono ?_
 rintro e w1 ⟨rfl, hb1⟩
 have N := hid hb1
 have a0 := box_cell (j := 0) N.out rfl
 have a1 := box_cell (j := 1) N.out rfl
 have a2 := box_cell (j := 2) N.out rfl
 have a3 := box_cell (j := 3) N.out rfl
 have a4 := box_cell (j := 4) N.out rfl
 cases b1 with
 | false =>
  replace hR : Hid (R = 4) := hR.out.trans (if_pos rfl)
  go_wp2_with fail
  go_ret
  exact ⟨by rw [hR.out]; rfl, (below_new _ _).step N.out⟩
 | true =>
 replace hR : Hid _ := hid (hR.out.trans (if_neg (by decide)))
 go_wp2_with fail
 refine (g2.out _ _ (hV0.out.later ((below_new _ _).step N.out))).mono ?_
 rintro e w2 ⟨rfl, hb⟩
 replace N := hid (N.out.step hb)
 clear a0 a1 a2 a3 a4
 have a0 := box_cell (j := 0) N.out rfl
 have a1 := box_cell (j := 1) N.out rfl
 have a2 := box_cell (j := 2) N.out rfl
 have a3 := box_cell (j := 3) N.out rfl
 have a4 := box_cell (j := 4) N.out rfl
 cases b2 with
 | false =>
  replace hR : Hid (R = 11) := hR.out.trans (if_pos rfl)
  go_wp2_with fail
  go_ret
  exact ⟨by rw [hR.out]; rfl, (below_new _ _).step N.out⟩
 | true =>
 replace hR : Hid _ := hid (hR.out.trans (if_neg (by decide)))
 go_wp2_with fail
 refine (g3.out _ _ (hV0.out.later ((below_new _ _).step N.out))).mono ?_
 rintro e w3 ⟨rfl, hb⟩
 replace N := hid (N.out.step hb)
 clear a0 a1 a2 a3 a4
 have a0 := box_cell (j := 0) N.out rfl
 have a1 := box_cell (j := 1) N.out rfl
 have a2 := box_cell (j := 2) N.out rfl
 have a3 := box_cell (j := 3) N.out rfl
 have a4 := box_cell (j := 4) N.out rfl
 cases b3 with
 | false =>
  replace hR : Hid (R = 15) := hR.out.trans (if_pos rfl)
  go_wp2_with fail
  go_ret
  exact ⟨by rw [hR.out]; rfl, (below_new _ _).step N.out⟩
 | true =>
 replace hR : Hid _ := hid (hR.out.trans (if_neg (by decide)))
 go_wp2_with fail
 refine (g4.out _ _ (hV0.out.later ((below_new _ _).step N.out))).mono ?_
 rintro e w4 ⟨rfl, hb⟩
 replace N := hid (N.out.step hb)
 clear a0 a1 a2 a3 a4
 have a0 := box_cell (j := 0) N.out rfl
 have a1 := box_cell (j := 1) N.out rfl
 have a2 := box_cell (j := 2) N.out rfl
 have a3 := box_cell (j := 3) N.out rfl
 have a4 := box_cell (j := 4) N.out rfl
 by_cases hd : 8 < d
 ·replace hR : Hid (R = 3) := hR.out.trans (if_pos hd)
  go_wp2_with fail
  go_ret
  exact ⟨by rw [hR.out]; rfl, (below_new _ _).step N.out⟩
 replace hR : Hid _ := hid (hR.out.trans (if_neg hd))
 go_wp2_with fail
 refine (g5.out _ _ (hV0.out.later ((below_new _ _).step N.out))).mono ?_
 rintro e w5 ⟨v, rfl, g, cap, rfl, hm5⟩
 replace N := hid (N.out.step hm5.below)
 by_cases he : 2048 < en.length
 ·replace hR : Hid (R = 2) := hR.out.trans (if_pos he)
  go_wp2_with fail
  go_ret
  exact ⟨by rw [hR.out]; rfl, (below_new _ _).step N.out⟩
 replace hR : Hid (R = 0) := hR.out.trans (if_neg he)
 go_wp2_with fail
 go_ret
 exact ⟨by rw [hR.out]; rfl, (below_new _ _).step N.out⟩
end Go.Proofs.YthjihdpleclejaaGreatDoor
