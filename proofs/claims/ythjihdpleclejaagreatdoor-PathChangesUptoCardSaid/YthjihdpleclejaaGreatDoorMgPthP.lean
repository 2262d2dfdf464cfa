/-
  Plain paths: a path's steps, by the program's way and by the document's. No condition.
  Walks: the program's steps of a path: digit, letter, place, isName.
  Walk: path.Steps. The path is shorter than 4294967281 bytes.
  The cell MaxLen in a shaped world. No condition.
-/
import Derived.Test.YthjihdpleclejaaGreatDoorMgPlain
import Derived.Lib.Split
import Derived.Test.YthjihdpleclejaaGreatDoorMgQuiet
import Derived.Test.YthjihdpleclejaaGreatDoorProg
import Derived.Lib.OthersKept
import Derived.WalkKit
import Derived.Handy
import Derived.Deep.LoopGhost
import Derived.Deep.CutBlock
import Derived.Test.YthjihdpleclejaaGreatDoorMgShelfA
import Derived.Test.YthjihdpleclejaaGreatDoorMgVal12
namespace Go.Proofs.YthjihdpleclejaaGreatDoor
def digB (c : UInt8) : Bool := decide (48 ≤ c.toNat) && decide (c.toNat ≤ 57)
def letB (c : UInt8) : Bool := (decide (97 ≤ c.toNat) && decide (c.toNat ≤ 122)) || (decide (65 ≤ c.toNat) && decide (c.toNat ≤ 90)) || decide (c.toNat = 95)
def placeB : List UInt8 → Option Nat
 | [a] => if digB a = true then some (a.toNat - 48) else none
 | [a, b] => if digB a = true ∧ digB b = true ∧ a.toNat ≠ 48 then some (10 * (a.toNat - 48) + (b.toNat - 48)) else none
 | _ => none
def nameB : List UInt8 → Bool
 | [] => false
 | a :: r => letB a && r.all (fun c => letB c || digB c) && decide (r.length ≤ 23)
def place (s : ByteArray) : Option Nat := placeB s.data.toList
def isNm (s : ByteArray) : Bool := nameB s.data.toList
def stepB (s : ByteArray) : Bool := (place s).isSome || isNm s
def bar (l : List UInt8) : ByteArray := ⟨l.toArray⟩
theorem bar_of (s : ByteArray) : bar s.data.toList = s := by cases s; simp [bar]
def cutG (cur : List UInt8) : List UInt8 → List (List UInt8)
 | [] => [cur]
 | c :: r => if c = 46 then cur :: cutG [] r else cutG (cur ++ [c]) r
def stepsOf (l : List ByteArray) : Option (List ByteArray) := if l.length ≤ 8 ∧ l.all stepB = true then some l else none
def stepsP (p : ByteArray) : Option (List ByteArray) := stepsOf ((cutG [] p.data.toList).map bar)
theorem digB_le {c : UInt8} (h : digB c = true) : 48 ≤ c.toNat ∧ c.toNat ≤ 57 := by
 simpa [digB] using h
theorem index_cons (c : UInt8) (r : List UInt8) : Lib.index (c :: r) [46] = if c = 46 then 0 else if Lib.index r [46] = -1 then -1 else Lib.index r [46] + 1 := by
 by_cases h : c = 46
 ·subst h
  rw [if_pos rfl]
  exact Lib.index_first (i := 0) (by simp) (by simp [Lib.occAt]) (fun j hj => absurd hj (Nat.not_lt_zero _))
 ·rw [if_neg h]
  have h1 : Lib.NoOcc (c :: r) [46] 1 := fun j hj => by
   obtain rfl : j = 0 := by omega
   simp [Lib.occAt, List.isPrefixOf, Ne.symm h]
  rw [Lib.index_drop h1 (by simp)]
  simp
theorem index_nil46 : Lib.index [] [46] = -1 := Lib.index_none (fun j hj => by
 obtain rfl : j = 0 := by simpa using hj
 simp [Lib.occAt])
theorem cutG_miss : ∀ (l cur : List UInt8), Lib.index l [46] = -1 → cutG cur l = [cur ++ l]
 | [], cur, _ => by simp [cutG]
 | c :: r, cur, h => by
  rw [index_cons] at h
  by_cases hc : c = 46
  ·rw [if_pos hc] at h; cases h
  ·rw [if_neg hc] at h
   have hr : Lib.index r [46] = -1 := by
    by_cases h0 : Lib.index r [46] = -1
    ·exact h0
    ·rw [if_neg h0] at h
     have := Lib.index_ge r [46]
     omega
   rw [cutG, if_neg hc, cutG_miss r _ hr, List.append_assoc]
   rfl
theorem cutG_hit : ∀ (l cur : List UInt8) (i : Nat), Lib.index l [46] = i → cutG cur l = (cur ++ l.take i) :: cutG [] (l.drop (i + 1))
 | [], cur, i, h => by rw [index_nil46] at h; omega
 | c :: r, cur, i, h => by
  rw [index_cons] at h
  by_cases hc : c = 46
  ·rw [if_pos hc] at h
   obtain rfl : i = 0 := by omega
   simp [cutG, hc]
  ·rw [if_neg hc] at h
   by_cases h0 : Lib.index r [46] = -1
   ·rw [if_pos h0] at h; omega
   ·rw [if_neg h0] at h
    have hg := Lib.index_ge r [46]
    obtain ⟨j, rfl⟩ : ∃ j, i = j + 1 := ⟨i - 1, by omega⟩
    rw [cutG, if_neg hc, cutG_hit r _ j (by omega), List.append_assoc]
    simp
theorem cutG_len : ∀ (l cur : List UInt8), (cutG cur l).length ≤ l.length + 1
 | [], cur => by simp [cutG]
 | c :: r, cur => by
  rw [cutG]
  split
  ·have := cutG_len r []
   simp only [List.length_cons]; omega
  ·have := cutG_len r (cur ++ [c])
   simp only [List.length_cons]; omega
theorem cutG_pos : ∀ (l cur : List UInt8), 1 ≤ (cutG cur l).length
 | [], cur => by simp [cutG]
 | c :: r, cur => by
  rw [cutG]
  split
  ·simp
  ·exact cutG_pos r _
theorem splitK_cut : ∀ (k : Nat) (l : List UInt8), (cutG [] l).length ≤ k + 1 → Lib.splitK [46] 0 k l = cutG [] l
 | 0, l, h => by
  rcases Int.lt_or_le (Lib.index l [46]) 0 with h0 | h0
  ·rw [cutG_miss l [] (by have := Lib.index_ge l [46]; omega)]; rfl
  ·obtain ⟨i, hi⟩ := Int.eq_ofNat_of_zero_le h0
   rw [cutG_hit l [] i hi] at h
   have := cutG_pos (l.drop (i + 1)) []
   simp only [List.length_cons] at h
   omega
 | k + 1, l, h => by
  rw [Lib.splitK]
  rcases Int.lt_or_le (Lib.index l [46]) 0 with h0 | h0
  ·have h1 : Lib.index l [46] = -1 := by have := Lib.index_ge l [46]; omega
   rw [cutG_miss l [] h1, h1]; rfl
  ·obtain ⟨i, hi⟩ := Int.eq_ofNat_of_zero_le h0
   rw [cutG_hit l [] i hi] at h ⊢
   simp only [List.length_cons] at h
   have hm : ¬ (Lib.index l [46] == -1) = true := fun e => by have := beq_iff_eq.1 e; omega
   have e : (Lib.index l [46]).toNat = i := by omega
   rw [if_neg hm, e, splitK_cut k _ (by simpa using Nat.le_of_succ_le_succ h)]
   simp
theorem splitK_more : ∀ (k : Nat) (l : List UInt8), k + 1 ≤ (cutG [] l).length → (Lib.splitK [46] 0 k l).length = k + 1
 | 0, l, _ => rfl
 | k + 1, l, h => by
  rw [Lib.splitK]
  rcases Int.lt_or_le (Lib.index l [46]) 0 with h0 | h0
  ·rw [cutG_miss l [] (by have := Lib.index_ge l [46]; omega)] at h
   simp at h
  ·obtain ⟨i, hi⟩ := Int.eq_ofNat_of_zero_le h0
   rw [cutG_hit l [] i hi] at h
   simp only [List.length_cons] at h
   have hm : ¬ (Lib.index l [46] == -1) = true := fun e => by have := beq_iff_eq.1 e; omega
   have e : (Lib.index l [46]).toNat = i := by omega
   rw [if_neg hm, e, List.length_cons, splitK_more k _ (by simpa using Nat.le_of_succ_le_succ h)]
def point : ByteArray := ⟨#[46]⟩
def cutP (p : ByteArray) : List ByteArray := Lib.splitB point 0 (min 9 (p.size + 1) - 1) p
theorem bsz_list (p : ByteArray) : p.data.toList.length = p.size := Array.length_toList
theorem cutP_data (p : ByteArray) : (cutP p).map (·.data.toList) = Lib.splitK [46] 0 (min 9 (p.size + 1) - 1) p.data.toList := Lib.splitB_data point 0 _ p
theorem map_bar (l : List ByteArray) : (l.map (·.data.toList)).map bar = l := by
 rw [List.map_map]
 conv => rhs; rw [← List.map_id l]
 exact List.map_congr_left (fun x _ => bar_of x)
theorem cutP_len (p : ByteArray) : (cutP p).length ≤ min 9 (p.size + 1) := by
 have := Lib.splitB_length_le point 0 (min 9 (p.size + 1) - 1) p
 unfold cutP
 omega
theorem cutP_pos (p : ByteArray) : 1 ≤ (cutP p).length := by
 unfold cutP
 generalize min 9 (p.size + 1) - 1 = k
 cases k with
 | zero => simp [Lib.splitB]
 | succ k => unfold Lib.splitB; split <;> simp
theorem steps_cut (p : ByteArray) : stepsOf (cutP p) = stepsP p := by
 have hd := cutP_data p
 have hl := cutG_len p.data.toList []
 rw [bsz_list] at hl
 unfold stepsP
 rcases Nat.lt_or_ge 8 (cutG [] p.data.toList).length with h | h
 ·rw [splitK_more _ _ (by omega) |> fun e => (show (cutP p).length = 9 from by rw [← List.length_map (f := (·.data.toList)), hd, e]; omega) |> fun e2 => (show stepsOf (cutP p) = none from by unfold stepsOf; rw [if_neg (by omega)])]
  unfold stepsOf
  rw [if_neg (by rw [List.length_map]; omega)]
 ·rw [splitK_cut _ _ (by omega)] at hd
  rw [← hd, map_bar]
def goS (out : List ByteArray) (cur : List UInt8) : List UInt8 → Option (List ByteArray)
 | [] => if stepB (bar cur) = false ∨ out.length = 8 then none else some (out ++ [bar cur])
 | c :: r => if c = 46 then (if stepB (bar cur) = false ∨ out.length = 8 then none else goS (out ++ [bar cur]) [] r) else goS out (cur ++ [c]) r
theorem stepsOf_bad {a b : List ByteArray} {x : ByteArray} (h : stepB x = false ∨ a.length = 8) : stepsOf (a ++ x :: b) = none := by
 unfold stepsOf
 refine if_neg (fun ⟨h1, h2⟩ => ?_)
 rcases h with h | h
 ·rw [List.all_append, List.all_cons, h] at h2; simp at h2
 ·simp only [List.length_append, List.length_cons] at h1; omega
theorem goS_steps : ∀ (r : List UInt8) (out : List ByteArray) (cur : List UInt8), out.length ≤ 8 → out.all stepB = true → goS out cur r = stepsOf (out ++ (cutG cur r).map bar)
 | [], out, cur, h1, h2 => by
  rw [goS, cutG]
  split
  ·rename_i h; rw [List.map_cons, stepsOf_bad h]
  ·rename_i h
   have ha : stepB (bar cur) = true := by
    cases hb : stepB (bar cur) with
    | true => rfl
    | false => exact absurd (.inl hb) h
   have hb : out.length ≠ 8 := fun e => h (.inr e)
   unfold stepsOf
   rw [if_pos ⟨by simp; omega, by simp [h2, ha]⟩]
   rfl
 | c :: r, out, cur, h1, h2 => by
  rw [goS, cutG]
  by_cases hc : c = 46
  ·rw [if_pos hc, if_pos hc]
   split
   ·rename_i h; rw [List.map_cons, stepsOf_bad h]
   ·rename_i h
    have ha : stepB (bar cur) = true := by
     cases hb : stepB (bar cur) with
     | true => rfl
     | false => exact absurd (.inl hb) h
    have hb : out.length ≠ 8 := fun e => h (.inr e)
    rw [goS_steps r _ _ (by simp; omega) (by simp [h2, ha]), List.map_cons, List.append_assoc]
    rfl
  ·rw [if_neg hc, if_neg hc, goS_steps r _ _ h1 h2]
theorem steps_ref (p : ByteArray) : goS [] [] p.data.toList = stepsP p := by rw [goS_steps _ _ _ (by simp) rfl]; rfl
theorem stepsOf_is {l r : List ByteArray} (h : stepsOf l = some r) : l = r ∧ r.length ≤ 8 ∧ ∀ x ∈ r, stepB x = true := by
 unfold stepsOf at h
 split at h
 ·rename_i hh
  injection h with h
  subst h
  exact ⟨rfl, hh.1, List.all_eq_true.1 hh.2⟩
 ·cases h
theorem stepsP_is {p : ByteArray} {r : List ByteArray} (h : stepsP p = some r) : 1 ≤ r.length ∧ r.length ≤ 8 ∧ (∀ x ∈ r, stepB x = true) ∧ r = cutP p := by
 rw [← steps_cut] at h
 obtain ⟨rfl, h1, h2⟩ := stepsOf_is h
 exact ⟨cutP_pos p, h1, h2, rfl⟩
end Go.Proofs.YthjihdpleclejaaGreatDoor
namespace Go.Proofs.YthjihdpleclejaaGreatDoor
open Go.RowKit Go.Proofs
def digR (r : Int) : Bool := decide (48 ≤ r) && decide (r ≤ 57)
def letR (r : Int) : Bool := (decide (97 ≤ r) && decide (r ≤ 122)) || (decide (65 ≤ r) && decide (r ≤ 90)) || decide (r = 95)
theorem digR_byte (c : UInt8) : digR (c.toNat : Int) = digB c := by
 unfold digR digB
 congr 1 <;> exact decide_eq_decide.2 (by omega)
theorem letR_byte (c : UInt8) : letR (c.toNat : Int) = letB c := by
 unfold letR letB
 congr 1
 ·congr 1 <;> (congr 1 <;> exact decide_eq_decide.2 (by omega))
 ·exact decide_eq_decide.2 (by omega)
theorem digR_high {r : Int} (h : 128 ≤ r) : digR r = false := by
 unfold digR
 rw [decide_eq_false (p := r ≤ 57) (by omega), Bool.and_false]
theorem letR_high {r : Int} (h : 128 ≤ r) : letR r = false := by
 unfold letR
 rw [decide_eq_false (p := r ≤ 122) (by omega), decide_eq_false (p := r ≤ 90) (by omega), decide_eq_false (p := r = 95) (by omega)]
 simp
theorem digit_calls (r : Int) (w : World) : Calls Tryz.prog 80 #[.int .i32 r] w fun e w' => e = .returned (.bool (digR r)) ∧ w' = w := by
 obtain ⟨R, hR⟩ : ∃ R, R = digR r := ⟨_, rfl⟩
 rw [← hR]
 unfold digR at hR
 replace hR := hid hR
 cases h1 : decide (48 ≤ r) with
 | false =>
  have h1' := of_decide_eq_false h1
  go_enter Tryz.func80, Tryz.ntmps80
  go_wp2
  go_ret
  exact ⟨by rw [hR.out, h1]; rfl, rfl⟩
 | true =>
  have h1' := of_decide_eq_true h1
  cases h2 : decide (r ≤ 57) with
  | false =>
   have h2' := of_decide_eq_false h2
   go_enter Tryz.func80, Tryz.ntmps80
   go_wp2
   go_ret
   exact ⟨by rw [hR.out, h1, h2]; rfl, rfl⟩
  | true =>
   have h2' := of_decide_eq_true h2
   go_enter Tryz.func80, Tryz.ntmps80
   go_wp2
   go_ret
   exact ⟨by rw [hR.out, h1, h2]; rfl, rfl⟩
set_option maxHeartbeats 1000000 in
theorem letter_calls (r : Int) (w : World) : Calls Tryz.prog 81 #[.int .i32 r] w fun e w' => e = .returned (.bool (letR r)) ∧ w' = w := by
  obtain ⟨R, hR⟩ : ∃ R, R = letR r := ⟨_, rfl⟩
  rw [← hR]
  unfold letR at hR
  replace hR := hid hR
  cases h1 : decide (97 ≤ r) <;> cases h2 : decide (r ≤ 122) <;> cases h3 : decide (65 ≤ r) <;> cases h4 : decide (r ≤ 90) <;> cases h5 : decide (r = 95) <;>
    first
    | (exfalso; (first | have := of_decide_eq_false h1 | have := of_decide_eq_true h1); (first | have := of_decide_eq_false h2 | have := of_decide_eq_true h2); (first | have := of_decide_eq_false h3 | have := of_decide_eq_true h3); (first | have := of_decide_eq_false h4 | have := of_decide_eq_true h4); (first | have := of_decide_eq_false h5 | have := of_decide_eq_true h5); omega)
    | ((first | have g1 := of_decide_eq_false h1 | have g1 := of_decide_eq_true h1); (first | have g2 := of_decide_eq_false h2 | have g2 := of_decide_eq_true h2); (first | have g3 := of_decide_eq_false h3 | have g3 := of_decide_eq_true h3); (first | have g4 := of_decide_eq_false h4 | have g4 := of_decide_eq_true h4); (first | have g5 := of_decide_eq_false h5 | have g5 := of_decide_eq_true h5)
       rw [h1, h2, h3, h4, h5] at hR
       go_enter Tryz.func81, Tryz.ntmps81
       go_wp2
       go_ret
       exact ⟨by rw [hR.out]; first | rfl | (rw [show (r == 95) = false from beq_false_of_ne g5]; rfl) | (rw [show (r == 95) = true from beq_iff_eq.2 g5]; rfl), rfl⟩)
def valD (l : List UInt8) : Nat := l.foldl (fun n c => 10 * n + (c.toNat - 48)) 0
theorem valD_snoc (l : List UInt8) (c : UInt8) : valD (l ++ [c]) = 10 * valD l + (c.toNat - 48) := by simp [valD]
theorem place_dig {s : ByteArray} {m : Nat} (h : place s = some m) : s.data.toList.all digB = true ∧ s.data.toList.length ≤ 2 ∧ valD s.data.toList = m := by
 unfold place at h
 generalize s.data.toList = l at *
 unfold placeB at h
 split at h
 ·split at h
  ·rename_i a ha
   injection h with h
   exact ⟨by simp [ha], by simp, by simp [valD, h]⟩
  ·cases h
 ·split at h
  ·rename_i a b hab
   injection h with h
   exact ⟨by simp [hab.1, hab.2.1], by simp, by simp [valD, h]⟩
  ·cases h
 ·cases h
theorem place_not {s : ByteArray} {pos : Nat} {c : UInt8} (h : s.data.toList[pos]? = some c) (hc : digB c = false) : place s = none := by
 cases hp : place s with
 | none => rfl
 | some m =>
  have := List.all_eq_true.1 (place_dig hp).1 c (List.mem_of_getElem? h)
  rw [hc] at this; cases this
theorem place_long {s : ByteArray} (h : 3 ≤ s.size) : place s = none := by
 cases hp : place s with
 | none => rfl
 | some m =>
  have := (place_dig hp).2.1
  rw [bsz_list] at this
  omega
theorem valD_small {l : List UInt8} (hd : l.all digB = true) (hl : l.length ≤ 2) : valD l ≤ 99 := by
 match l, hl with
 | [], _ => simp [valD]
 | [a], _ =>
  have ha : digB a = true := by simpa using hd
  simp only [digB, Bool.and_eq_true, decide_eq_true_eq] at ha
  simp [valD]; omega
 | [a, b], _ =>
  have hab : digB a = true ∧ digB b = true := by simpa using hd
  simp only [digB, Bool.and_eq_true, decide_eq_true_eq] at hab
  simp [valD]; omega
 | a :: b :: c :: r, hl => simp at hl
theorem place_end {s : ByteArray} (hd : s.data.toList.all digB = true) : place s = if s.size = 1 ∨ s.size = 2 ∧ s.data.toList[0]? ≠ some 48 then some (valD s.data.toList) else none := by
 unfold place
 rw [← bsz_list]
 generalize s.data.toList = l at *
 match l with
 | [] => simp [placeB]
 | [a] =>
  have ha : digB a = true := by simpa using hd
  simp [placeB, ha, valD]
 | [a, b] =>
  have hab : digB a = true ∧ digB b = true := by simpa using hd
  have e : (a.toNat ≠ 48) ↔ (a ≠ 48) := by
   constructor
   ·intro h e; subst e; exact h rfl
   ·intro h e; exact h (UInt8.toNat_inj.1 e)
  simp [placeB, hab.1, hab.2, e, valD]
 | a :: b :: c :: r => simp [placeB]
theorem byte_at {s : ByteArray} {pos : Nat} (h : pos < s.size) : s.data.toList[pos]? = some (s[pos]'h) := by
 rw [Array.getElem?_toList]
 exact Array.getElem?_eq_getElem h
theorem take_bytes {s : ByteArray} {pos : Nat} (h : pos < s.size) : s.data.toList.take (pos + 1) = s.data.toList.take pos ++ [s[pos]'h] := take_succ_of' (byte_at h)
where take_succ_of' {α : Type} {l : List α} {i : Nat} {x : α} (h : l[i]? = some x) : l.take (i + 1) = l.take i ++ [x] := by rw [List.take_add_one, h]; rfl
theorem rune_cases (s : ByteArray) (pos : Nat) (h : pos < s.size) : (Utf8.decode s pos = ((s[pos]'h).toNat, 1)) ∨ (128 ≤ (Utf8.decode s pos).1 ∧ 128 ≤ (s[pos]'h).toNat) := by
 by_cases ha : (s[pos]'h).toNat < 128
 ·exact .inl (decode_ascii s pos h ha)
 ·exact .inr ⟨(decode_high s pos h (by omega)).1, by omega⟩
set_option maxRecDepth 100000 in
set_option maxHeartbeats 2000000 in
theorem place_calls (s : ByteArray) (w : World) (hs : s.size ≤ 140737488355328) :
  Calls Tryz.prog 54 #[.string s] w fun e w' => ∃ n : Int, e = .returned (.tuple #[.int .i64 n, .bool (place s).isSome]) ∧ Below w.heap.size w w' ∧ ∀ m : Nat, place s = some m → n = m := by
 have hdg := hid (fun r w => digit_calls r w)
 have hln := hid (fun (h : s.data.toList.all digB = true) => place_end h)
 have hnt := hid (fun (pos : Nat) (c : UInt8) h hc => place_not (s := s) (pos := pos) (c := c) h hc)
 have hlg := hid (fun h => place_long (s := s) h)
 obtain ⟨R, hR⟩ : ∃ R, R = place s := ⟨_, rfl⟩
 rw [← hR] at hln hnt hlg ⊢
 clear hR
 go_enter Tryz.func54, Tryz.ntmps54
 go_wp2_with fail
 go_loopg [4] s.size (fun g n wr => ∃ (pos m : Nat), g + pos = s.size ∧ n = .int .i64 m ∧ m = valD (s.data.toList.take pos) ∧ m ≤ 99 ∧ (s.data.toList.take pos).all digB = true ∧ wr.heap[w.heap.size]? = some (.stringIter s pos) ∧ Below w.heap.size w wr)
 case atStart =>
  refine ⟨0, 0, by omega, rfl, by simp [valD], by omega, by simp, ?_, (Below.refl _ w).alloc (Nat.le_refl _) _⟩
  exact World.iter_heap w s 0
 case round =>
  obtain ⟨pos, m, hg, rfl, hm, hm9, hall, hit, hb⟩ := hrel
  replace hm := hid hm
  replace hall := hid hall
  replace hit := hid hit
  replace hb := hid hb
  by_cases hp : pos < s.size
  ·have hnx : ∀ ty, (Instr.next (.pointer (some ⟨w.heap.size, 0, none⟩)) true ty).run Tryz.prog wr = _ := fun ty => Lib.run_next_any_at wr w.heap.size s pos ty hit.out hp
   rcases rune_cases s pos hp with hd | ⟨hd1, hd2⟩
   ·rw [hd] at hnx
    have hb2 := hid (Lib.below_iterAt hb.out (k := w.heap.size) (Nat.le_refl _) s (pos + 1))
    have hit2 := hid (Lib.iterAt_heap wr w.heap.size s pos (pos + 1) hit.out)
    have hby := hid (byte_at hp)
    have htk := hid (take_bytes hp)
    clear hd hit hb
    simp only at hnx
    generalize s[pos]'hp = c at *
    have hcd := digR_byte c
    cases hdc : digB c with
    | false =>
     rw [hdc] at hcd
     go_wp2_with fail
     refine (hdg.out _ _).mono ?_
     rintro e w1 ⟨rfl, rfl⟩
     go_wp2_with fail
     go_returns
     have := hnt.out pos c hby.out hdc
     subst this
     exact ⟨_, rfl, hb2.out, fun m h => by cases h⟩
    | true =>
     rw [hdc] at hcd
     have hcr := digB_le hdc
     have e1 : IntKind.i64.wrap (10 * (m : Int)) = 10 * (m : Int) := by rw [IntKind.wrap_i64]; omega
     have e2 : IntKind.i32.wrap ((c.toNat : Int) - 48) = (c.toNat : Int) - 48 := by rw [IntKind.wrap_i32]; omega
     have e3 : IntKind.i64.wrap ((c.toNat : Int) - 48) = (c.toNat : Int) - 48 := by rw [IntKind.wrap_i64]; omega
     have e4 : IntKind.i64.wrap (10 * (m : Int) + ((c.toNat : Int) - 48)) = ((10 * m + (c.toNat - 48) : Nat) : Int) := by rw [IntKind.wrap_i64]; omega
     have hal2 : Hid ((s.data.toList.take (pos + 1)).all digB = true) := by show _ = _; rw [htk.out, List.all_append, hall.out]; simp [hdc]
     have hv2 : Hid (10 * m + (c.toNat - 48) = valD (s.data.toList.take (pos + 1))) := by show _ = _; rw [htk.out, valD_snoc, ← hm.out]
     obtain ⟨m2, hm2⟩ : ∃ m2, m2 = 10 * m + (c.toNat - 48) := ⟨_, rfl⟩
     rw [← hm2] at e4 hv2
     by_cases h99 : 99 < m2
     ·have hpl : Hid (3 ≤ s.size) := by
       show _ ≤ _
       have h1 : ¬ (s.data.toList.take (pos + 1)).length ≤ 2 := fun h => by
        have := valD_small hal2.out h
        rw [← hv2.out] at this
        omega
       rw [List.length_take, bsz_list] at h1
       omega
      have h99i : (99 : Int) < (m2 : Int) := by omega
      clear hm2
      go_wp2_with fail
      refine (hdg.out _ _).mono ?_
      rintro e w1 ⟨rfl, rfl⟩
      go_wp2_with fail
      go_returns
      have := hlg.out hpl.out
      subst this
      exact ⟨_, rfl, hb2.out, fun m h => by cases h⟩
     ·have h99i : ¬ (99 : Int) < (m2 : Int) := by omega
      clear hm2
      go_wp2_with fail
      refine (hdg.out _ _).mono ?_
      rintro e w1 ⟨rfl, rfl⟩
      go_wp2_with fail
      go_roundg (s.size - (pos + 1))
      case measure => omega
      case rel => exact ⟨pos + 1, m2, by omega, rfl, hv2.out, by omega, hal2.out, hit2.out, hb2.out⟩
   ·have hb2 := hid (Lib.below_iterAt hb.out (k := w.heap.size) (Nat.le_refl _) s (pos + (Utf8.decode s pos).2))
    have hby := hid (byte_at hp)
    have hcd := digR_high (r := ((Utf8.decode s pos).1 : Int)) (by omega)
    have hnd : Hid (digB (s[pos]'hp) = false) := by
     show _ = _
     unfold digB
     rw [decide_eq_false (p := (s[pos]'hp).toNat ≤ 57) (by omega), Bool.and_false]
    clear hit hb
    generalize s[pos]'hp = c at *
    generalize Utf8.decode s pos = D at *
    go_wp2_with fail
    refine (hdg.out _ _).mono ?_
    rintro e w1 ⟨rfl, rfl⟩
    go_wp2_with fail
    go_returns
    have := hnt.out pos c hby.out hnd.out
    subst this
    exact ⟨_, rfl, hb2.out, fun m h => by cases h⟩
  ·have hnx : ∀ ty, (Instr.next (.pointer (some ⟨w.heap.size, 0, none⟩)) true ty).run Tryz.prog wr = _ := fun ty => Lib.run_next_end_at wr w.heap.size s pos ty hit.out hp
   have hfull : s.data.toList.take pos = s.data.toList := List.take_of_length_le (by rw [bsz_list]; omega)
   have hla := hln.out (by rw [← hfull]; exact hall.out)
   replace hm := hm.out
   rw [hfull] at hm
   rw [← hm] at hla
   replace hla := hid hla
   clear hfull hm hall hnt hlg hln hdg hit hg hp
   by_cases h1 : s.size = 1
   ·have h1i : (s.size : Int) = 1 := by omega
    rw [if_pos (.inl h1)] at hla
    obtain rfl := hla.out
    clear hla h1
    go_upto_region 10 with fail
    refine wp_later (by kernel_rfl) (by kernel_rfl) ?_
    repeat (go_big_quiet_step (fail))
    refine wpQuiet_nil ?_
    rintro _ ⟨q, rfl⟩
    go_wp2_with fail
    go_returns
    exact ⟨(m : Int), rfl, hb.out.step q.h, fun m' h => by injection h with h; rw [h]⟩
   ·have h1i : ((s.size : Int) == 1) = false := beq_false_of_ne (by omega)
    by_cases h2 : s.size = 2
    ·have h2i : (s.size : Int) = 2 := by omega
     obtain ⟨c, hc⟩ : ∃ c, s.data.toList[0]? = some c := ⟨_, byte_at (s := s) (pos := 0) (by omega)⟩
     have hcs : ∀ h : 0 < s.size, s[0]'h = c := fun h => by
      have := byte_at h
      rw [hc] at this
      injection this with this
      exact this.symm
     have hc0 : s.data[0]? = some c := by rw [← Array.getElem?_toList]; exact hc
     by_cases h48 : c = 48
     ·subst h48
      rw [if_neg (by rw [hc]; simp [h1])] at hla
      obtain rfl := hla.out
      clear hla
      go_upto_region 10 with fail
      refine wp_later (by kernel_rfl) (by kernel_rfl) ?_
      repeat (go_big_quiet_step (fail))
      refine wpQuiet_nil ?_
      rintro _ ⟨q, rfl⟩
      go_wp2_with fail
      go_returns
      exact ⟨_, rfl, hb.out.step q.h, fun m h => by cases h⟩
     ·have hn48 : ((c.toNat : Int) != 48) = true := by
       rw [bne, beq_false_of_ne (fun e => h48 (UInt8.toNat_inj.1 (by show c.toNat = 48; omega)))]
       rfl
      rw [if_pos (.inr ⟨h2, by rw [hc]; simp [h48]⟩)] at hla
      obtain rfl := hla.out
      clear hla
      go_upto_region 10 with fail
      refine wp_later (by kernel_rfl) (by kernel_rfl) ?_
      repeat (go_big_quiet_step (fail))
      refine wpQuiet_nil ?_
      rintro _ ⟨q, rfl⟩
      go_wp2_with fail
      go_returns
      exact ⟨(m : Int), rfl, hb.out.step q.h, fun m' h => by injection h with h; rw [h]⟩
    ·have h2i : ((s.size : Int) == 2) = false := beq_false_of_ne (by omega)
     rw [if_neg (by rintro (h | ⟨h, _⟩) <;> omega)] at hla
     obtain rfl := hla.out
     clear hla
     go_upto_region 10 with fail
     refine wp_later (by kernel_rfl) (by kernel_rfl) ?_
     repeat (go_big_quiet_step (fail))
     refine wpQuiet_nil ?_
     rintro _ ⟨q, rfl⟩
     go_wp2_with fail
     go_returns
     exact ⟨_, rfl, hb.out.step q.h, fun m h => by cases h⟩
def okB : List UInt8 → Bool
 | [] => true
 | a :: r => letB a && r.all (fun c => letB c || digB c)
theorem okB_snoc (l : List UInt8) (c : UInt8) : okB (l ++ [c]) = (okB l && (letB c || (decide (l ≠ []) && digB c))) := by
 cases l with
 | nil => simp [okB]
 | cons a r => simp [okB, Bool.and_assoc]
theorem nameB_ok (l : List UInt8) : nameB l = (okB l && decide (l ≠ []) && decide (l.length ≤ 24)) := by
 cases l with
 | nil => simp [nameB]
 | cons a r =>
  simp only [nameB, okB, ne_eq, reduceCtorEq, not_false_eq_true, decide_true, Bool.and_true, List.length_cons]
  congr 1
  exact decide_eq_decide.2 (by omega)
theorem okB_take {l : List UInt8} {i : Nat} (h : okB l = true) : okB (l.take i) = true := by
 cases l with
 | nil => simp [okB]
 | cons a r =>
  cases i with
  | zero => simp [okB]
  | succ i =>
   simp only [okB, List.take_succ_cons, Bool.and_eq_true] at h ⊢
   exact ⟨h.1, List.all_eq_true.2 fun x hx => List.all_eq_true.1 h.2 x (List.mem_of_mem_take hx)⟩
set_option maxRecDepth 100000 in
set_option maxHeartbeats 2000000 in
theorem name_calls (s : ByteArray) (w : World) (hs : s.size ≤ 140737488355328) :
  Calls Tryz.prog 55 #[.string s] w fun e w' => e = .returned (.bool (isNm s)) ∧ Below w.heap.size w w' := by
 have hdg := hid (fun r w => digit_calls r w)
 have hlt := hid (fun r w => letter_calls r w)
 have hend : okB s.data.toList = true → isNm s = (decide (s.size ≠ 0) && decide (s.size ≤ 24)) := fun h => by
  unfold isNm
  rw [nameB_ok, h, Bool.true_and, bsz_list]
  congr 1
  exact decide_eq_decide.2 (by rw [← bsz_list]; cases s.data.toList <;> simp)
 have hbad : ∀ pos, okB (s.data.toList.take (pos + 1)) = false → isNm s = false := fun pos h => by
  unfold isNm
  rw [nameB_ok]
  cases ho : okB s.data.toList with
  | false => rfl
  | true => rw [okB_take ho] at h; cases h
 replace hend := hid hend
 replace hbad := hid hbad
 obtain ⟨R, hR⟩ : ∃ R, R = isNm s := ⟨_, rfl⟩
 rw [← hR] at hend hbad ⊢
 clear hR
 go_enter Tryz.func55, Tryz.ntmps55
 go_wp2_with fail
 go_loopg [] s.size (fun g wr => ∃ pos : Nat, g + pos = s.size ∧ okB (s.data.toList.take pos) = true ∧ wr.heap[w.heap.size]? = some (.stringIter s pos) ∧ Below w.heap.size w wr)
 case atStart =>
  refine ⟨0, by omega, by simp [okB], ?_, (Below.refl _ w).alloc (Nat.le_refl _) _⟩
  exact World.iter_heap w s 0
 case round =>
  obtain ⟨pos, hg, hok, hit, hb⟩ := hrel
  replace hok := hid hok
  replace hit := hid hit
  replace hb := hid hb
  by_cases hp : pos < s.size
  ·have hnx : ∀ ty, (Instr.next (.pointer (some ⟨w.heap.size, 0, none⟩)) true ty).run Tryz.prog wr = _ := fun ty => Lib.run_next_any_at wr w.heap.size s pos ty hit.out hp
   have htk := take_bytes hp
   have hsn : okB (s.data.toList.take (pos + 1)) = (letB (s[pos]'hp) || (decide (pos ≠ 0) && digB (s[pos]'hp))) := by
    rw [htk, okB_snoc, hok.out, Bool.true_and]
    congr 2
    refine decide_eq_decide.2 ?_
    rw [ne_eq, List.take_eq_nil_iff]
    constructor
    ·intro h e; exact h (.inl e)
    ·rintro h (e | e)
     ·exact h e
     ·rw [← bsz_list, e] at hp; simp at hp
   replace hsn := hid hsn
   clear htk
   rcases rune_cases s pos hp with hd | ⟨hd1, hd2⟩
   ·rw [hd] at hnx
    have hb2 := hid (Lib.below_iterAt hb.out (k := w.heap.size) (Nat.le_refl _) s (pos + 1))
    have hit2 := hid (Lib.iterAt_heap wr w.heap.size s pos (pos + 1) hit.out)
    clear hd hit hb
    simp only at hnx
    generalize s[pos]'hp = c at *
    have hcl := letR_byte c
    have hcd := digR_byte c
    by_cases h0 : pos = 0
    ·subst h0
     cases hlc : letB c with
     | true =>
      rw [hlc] at hcl
      have hn := hsn.out
      rw [hlc] at hn
      replace hn := hid hn
      go_wp2_with fail
      refine (hlt.out _ _).mono ?_
      rintro e w1 ⟨rfl, rfl⟩
      go_wp2_with fail
      go_roundg (s.size - (0 + 1))
      case measure => omega
      case rel => exact ⟨0 + 1, by omega, by rw [hn.out]; rfl, hit2.out, hb2.out⟩
     | false =>
      rw [hlc] at hcl
      have hn := hsn.out
      rw [hlc] at hn
      have hno := hbad.out 0 (by rw [hn]; rfl)
      subst hno
      clear hn
      go_wp2_with fail
      refine (hlt.out _ _).mono ?_
      rintro e w1 ⟨rfl, rfl⟩
      go_wp2_with fail
      go_ret
      exact ⟨rfl, hb2.out⟩
    ·have h0i : ((pos : Int) == 0) = false := beq_false_of_ne (by omega)
     have hn := hsn.out
     rw [decide_eq_true h0, Bool.true_and] at hn
     cases hlc : letB c with
     | true =>
      rw [hlc] at hcl hn
      replace hn := hid hn
      go_wp2_with fail
      refine (hlt.out _ _).mono ?_
      rintro e w1 ⟨rfl, rfl⟩
      go_wp2_with fail
      go_roundg (s.size - (pos + 1))
      case measure => omega
      case rel => exact ⟨pos + 1, by omega, by rw [hn.out]; rfl, hit2.out, hb2.out⟩
     | false =>
      rw [hlc] at hcl hn
      cases hdc : digB c with
      | true =>
       rw [hdc] at hcd hn
       replace hn := hid hn
       go_wp2_with fail
       refine (hlt.out _ _).mono ?_
       rintro e w1 ⟨rfl, rfl⟩
       go_wp2_with fail
       refine (hdg.out _ _).mono ?_
       rintro e w1 ⟨rfl, rfl⟩
       go_wp2_with fail
       go_roundg (s.size - (pos + 1))
       case measure => omega
       case rel => exact ⟨pos + 1, by omega, by rw [hn.out]; rfl, hit2.out, hb2.out⟩
      | false =>
       rw [hdc] at hcd hn
       have hno := hbad.out pos (by rw [hn]; rfl)
       subst hno
       clear hn
       go_wp2_with fail
       refine (hlt.out _ _).mono ?_
       rintro e w1 ⟨rfl, rfl⟩
       go_wp2_with fail
       refine (hdg.out _ _).mono ?_
       rintro e w1 ⟨rfl, rfl⟩
       go_wp2_with fail
       go_ret
       exact ⟨rfl, hb2.out⟩
   ·have hb2 := hid (Lib.below_iterAt hb.out (k := w.heap.size) (Nat.le_refl _) s (pos + (Utf8.decode s pos).2))
    have hcl := letR_high (r := ((Utf8.decode s pos).1 : Int)) (by omega)
    have hcd := digR_high (r := ((Utf8.decode s pos).1 : Int)) (by omega)
    have hnl : letB (s[pos]'hp) = false := by rw [← letR_byte]; exact letR_high (by omega)
    have hnd : digB (s[pos]'hp) = false := by rw [← digR_byte]; exact digR_high (by omega)
    have hno := hbad.out pos (by rw [hsn.out, hnl, hnd, Bool.and_false]; rfl)
    subst hno
    clear hit hb hsn hnl hnd hd1 hd2
    generalize Utf8.decode s pos = D at *
    by_cases h0 : pos = 0
    ·subst h0
     go_wp2_with fail
     refine (hlt.out _ _).mono ?_
     rintro e w1 ⟨rfl, rfl⟩
     go_wp2_with fail
     go_ret
     exact ⟨rfl, by simpa using hb2.out⟩
    ·have h0i : ((pos : Int) == 0) = false := beq_false_of_ne (by omega)
     go_wp2_with fail
     refine (hlt.out _ _).mono ?_
     rintro e w1 ⟨rfl, rfl⟩
     go_wp2_with fail
     refine (hdg.out _ _).mono ?_
     rintro e w1 ⟨rfl, rfl⟩
     go_wp2_with fail
     go_ret
     exact ⟨rfl, hb2.out⟩
  ·have hnx : ∀ ty, (Instr.next (.pointer (some ⟨w.heap.size, 0, none⟩)) true ty).run Tryz.prog wr = _ := fun ty => Lib.run_next_end_at wr w.heap.size s pos ty hit.out hp
   have hfull : s.data.toList.take pos = s.data.toList := List.take_of_length_le (by rw [bsz_list]; omega)
   have hla := hend.out (by rw [← hfull]; exact hok.out)
   clear hfull hok hbad hend hdg hlt hit hg
   by_cases h0 : s.size = 0
   ·have hl0 : s.data.toList = [] := List.length_eq_zero_iff.1 (by rw [bsz_list]; exact h0)
    have hs0 : s = ByteArray.empty := by rw [← bar_of s, hl0]; rfl
    clear hl0
    rw [decide_eq_false (by simp [h0]), Bool.false_and] at hla
    subst hla
    subst hs0
    go_wp2_with fail
    go_ret
    exact ⟨rfl, hb.out⟩
   ·have hne2 : s.toList.isEmpty = false := by
     rw [ByteArray.toList_eq]
     cases hl : s.data.toList with
     | nil => exact absurd (by rw [← bsz_list, hl]; rfl) h0
     | cons a r => rfl
    rw [decide_eq_true h0, Bool.true_and] at hla
    by_cases h24 : s.size ≤ 24
    ·have h24i : (s.size : Int) ≤ 24 := by omega
     rw [decide_eq_true h24] at hla
     subst hla
     go_wp2_with fail
     go_ret
     exact ⟨rfl, hb.out⟩
    ·have h24i : ¬ (s.size : Int) ≤ 24 := by omega
     rw [decide_eq_false h24] at hla
     subst hla
     go_wp2_with fail
     go_ret
     exact ⟨rfl, hb.out⟩
end Go.Proofs.YthjihdpleclejaaGreatDoor
namespace Go.Proofs.YthjihdpleclejaaGreatDoor
open Go.RowKit Go.Proofs
def StrsAt (w : World) (S : Nat → Prop) (l : List ByteArray) (v : Value) : Prop :=
 ∃ (a : Option Addr) (cap : Nat), v = .slice a l.length cap ∧ l.length ≤ cap ∧ cap ≤ 9223372036854775807 ∧ (l = [] ∨ ∃ b off, a = some ⟨b, off, none⟩ ∧ S b ∧ ∀ (j : Nat) (s : ByteArray), l[j]? = some s → w.cell? ⟨b, off + j, none⟩ = some (.string s))
theorem StrsAt.keep {w w' : World} {S S' : Nat → Prop} {l : List ByteArray} {v : Value} (h : StrsAt w S l v) (hS : ∀ b, S b → S' b) (hb : ∀ b, S b → w'.heap[b]? = w.heap[b]?) : StrsAt w' S' l v := by
 obtain ⟨a, cap, h1, h2, h3, h4⟩ := h
 refine ⟨a, cap, h1, h2, h3, ?_⟩
 rcases h4 with h4 | ⟨b, off, h5, h6, h7⟩
 ·exact .inl h4
 ·exact .inr ⟨b, off, h5, hS b h6, fun j s hj => (World.cell?_of_block (w := w) (hb b h6)).trans (h7 j s hj)⟩
theorem StrsAt.later {w w' : World} {l : List ByteArray} {v : Value} (h : StrsAt w (Now w) l v) (hb : Below w.heap.size w w') : StrsAt w' (Now w') l v :=
 h.keep (fun _ hb' => Nat.lt_of_lt_of_le hb' hb.size) (fun b hb' => hb.block b hb')
theorem info_str : (Tryz.prog.info? 9).map (fun i => (i.zero, i.size, i.bytes)) = some (some (.string ByteArray.empty), 1, 16) := by kernel_rfl
theorem own_strs {w : World} {B e : Nat} {l : List ByteArray} {v : Value} (h : w.ownsRow B e 1 v l.length (l.map Value.string)) : StrsAt w (From B w) l v := by
 rcases h.2 with ⟨rfl, h0⟩ | ⟨g, cap, cur, hv, hb, hr, hc, hm, _⟩
 ·exact ⟨none, 0, by rw [h0], by omega, by omega, .inl (List.length_eq_zero_iff.1 h0)⟩
 ·subst hv
  refine ⟨_, cap, rfl, hc, by unfold maxLen at hm; omega, .inr ⟨g, 0, rfl, ⟨hb, (Array.getElem?_eq_some_iff.1 hr).1⟩, fun j s hj => ?_⟩⟩
  have hlt := (List.getElem?_eq_some_iff.1 hj).1
  rw [Nat.zero_add, h.cellAt j (by omega)]
  simp [hj]
theorem splitK_small (sep : List UInt8) : ∀ (k : Nat) (l x : List UInt8), x ∈ Lib.splitK sep 0 k l → x.length ≤ l.length
 | 0, l, x, h => by
  rw [Lib.splitK, List.mem_singleton] at h
  rw [h]; exact Nat.le_refl _
 | k + 1, l, x, h => by
  rw [Lib.splitK] at h
  split at h
  ·rw [List.mem_singleton] at h; rw [h]; exact Nat.le_refl _
  ·rcases List.mem_cons.1 h with rfl | h
   ·rw [List.length_take]; omega
   ·have := splitK_small sep k _ x h
    rw [List.length_drop] at this
    omega
theorem cutP_small {p x : ByteArray} (h : x ∈ cutP p) : x.size ≤ p.size := by
 have h1 : x.data.toList ∈ (cutP p).map (·.data.toList) := List.mem_map_of_mem h
 rw [cutP_data] at h1
 have := splitK_small _ _ _ _ h1
 rwa [bsz_list, bsz_list] at this
theorem stepsOf_no {l : List ByteArray} {x : ByteArray} (h : x ∈ l) (hx : stepB x = false) : stepsOf l = none := by
 unfold stepsOf
 refine if_neg (fun ⟨_, h2⟩ => ?_)
 have := List.all_eq_true.1 h2 x h
 rw [hx] at this; cases this
def Mx (w : World) : Prop := ∃ m : Int, w.cell? ⟨2, 0, none⟩ = some (.int .i64 m)
theorem Mx.stays {w w' : World} (h : Mx w) (hb : Below w.heap.size w w') : Mx w' := by
 obtain ⟨m, hm⟩ := h
 exact ⟨m, (hb.cell (World.block_lt_of_cell? _ _ hm)).trans hm⟩
def Stepped (R : Option (List ByteArray)) (w : World) (e : Ending) (w' : World) : Prop := Below w.heap.size w w' ∧ match R with
 | none => e = .returned (.tuple #[.slice none 0 0, .int .i64 14])
 | some l => ∃ v, e = .returned (.tuple #[v, .int .i64 0]) ∧ StrsAt w' (From w.heap.size w') l v
set_option maxRecDepth 100000 in
set_option maxHeartbeats 2000000 in
theorem steps_calls (p : ByteArray) (w : World) (hp : p.size < 4294967281) (hM : Mx w) : Calls Tryz.prog 29 #[.string p] w (Stepped (stepsP p) w) := by
 obtain ⟨m, hm⟩ := hM
 have hsp := Tryz.strings_SplitN p point 9 m w hp hm (by decide) (by omega) (by omega)
 have hsm : ∀ x ∈ cutP p, x.size ≤ 140737488355328 := fun x hx => by have := cutP_small hx; omega
 have hst := steps_cut p
 have hlen := cutP_len p
 have hpos := cutP_pos p
 have hfull : (Lib.cellsOf (cutP p) (min 9 (p.size + 1))).toList.take (cutP p).length = (cutP p).map Value.string := by
  unfold Lib.cellsOf
  rw [List.toList_toArray, ← List.length_map (f := Value.string), List.take_left]
 have hcs := Lib.cellsOf_size hlen
 unfold cutP at hst hlen hpos hfull hsm hcs
 obtain ⟨N, hN⟩ : ∃ N, N = min 9 (p.size + 1) := ⟨_, rfl⟩
 have hN9 : N ≤ 9 := by omega
 rw [← hN] at hst hlen hpos hfull hsm hsp hcs
 clear hN
 obtain ⟨l, hl⟩ : ∃ l, l = Lib.splitB point 0 (N - 1) p := ⟨_, rfl⟩
 rw [← hl] at hst hlen hpos hfull hsm hsp hcs
 clear hl hp
 rw [← hst]
 obtain ⟨R, hR⟩ : ∃ R, R = stepsOf l := ⟨_, rfl⟩
 rw [← hR]
 have hno := hid (fun x h hx => hR.trans (stepsOf_no (l := l) (x := x) h hx))
 have hmany : Hid (8 < l.length → R = none) := fun h => by rw [hR]; exact if_neg (by omega)
 have hyes : Hid (l.length ≤ 8 → l.all stepB = true → R = some l) := fun h1 h2 => by rw [hR]; exact if_pos ⟨h1, h2⟩
 clear hR hst
 obtain ⟨C, hC⟩ : ∃ C, C = Lib.cellsOf l N := ⟨_, rfl⟩
 rw [← hC] at hsp hfull hcs
 clear hC
 have hsp0 : Calls Tryz.prog 53 #[.string p, .string ⟨#[46]⟩, .int .i64 9] w fun e w' => e = .returned (.slice (some ⟨w.heap.size, 0, none⟩) l.length N) ∧ w' = w.alloc (.cells C 9) := hsp
 replace hsp0 := hid hsp0
 have hpl := hid (fun (s : ByteArray) w h => place_calls s w h)
 have hnm := hid (fun (s : ByteArray) w h => name_calls s w h)
 replace hsm := hid hsm
 replace hfull := hid hfull
 obtain ⟨i0, hi, hz0, hz1, hz2⟩ := info_parts info_str
 clear hsp hm
 unfold Stepped
 go_enter Tryz.func29, Tryz.ntmps29
 go_wp2_with fail
 refine hsp0.out.mono ?_
 rintro e w1 ⟨rfl, hw1⟩
 have hB1 : Hid (Below w.heap.size w w1) := by show Below _ _ _; rw [hw1]; exact below_new _ _
 have hr1 : Hid (w1.heap[w.heap.size]? = some (.cells C 9 (0, 0))) := by show _ = _; rw [hw1]; exact heap_alloc_new _ _
 clear hw1 hsp0
 have hsz1 := hid (lt_of_block hr1.out)
 by_cases h8 : 8 < l.length
 ·have h8i : (8 : Int) < (l.length : Int) := by omega
  have hr := hmany.out h8
  subst hr
  go_wp2_with fail
  go_returns
  exact ⟨hB1.out, rfl⟩
 have h8i : ¬ (8 : Int) < (l.length : Int) := by omega
 go_wp2_with fail
 go_loopg [16] l.length (fun g i wr => ∃ j : Nat, g + j = l.length ∧ i = .int .i64 j ∧ (l.take j).all stepB = true ∧ Below w1.heap.size w1 wr)
 case atStart => exact ⟨0, by omega, rfl, by simp, Below.refl _ _⟩
 case round =>
  obtain ⟨j, hg, rfl, hall, hb⟩ := hrel
  replace hall := hid hall
  replace hb := hid hb
  have hr := hid ((hb.out.block _ hsz1.out).trans hr1.out)
  by_cases hlt : j < l.length
  ·obtain ⟨x, hx⟩ : ∃ x, l[j]? = some x := ⟨_, List.getElem?_eq_getElem hlt⟩
   have hc : wr.cell? ⟨w.heap.size, j, none⟩ = some (.string x) := by
    have h1 : (C.toList.take l.length)[j]? = some (.string x) := by rw [hfull.out]; simp [hx]
    rw [List.getElem?_take, if_pos hlt, Array.getElem?_toList] at h1
    exact box_at hr.out h1
   have htk := hid (take_succ_of hx)
   have hmem := hid (List.mem_of_getElem? hx)
   have hxs := hsm.out x hmem.out
   clear hx
   have e1 : IntKind.i64.wrap ((j : Int) + 1) = (j : Int) + 1 := by rw [IntWalk.i64_in _ (by omega)]
   go_wp2_with fail
   refine (hpl.out _ _ hxs).mono ?_
   rintro e w2 ⟨n, rfl, hb2, _⟩
   replace hb2 := hid hb2
   cases hpx : (place x).isSome with
   | true =>
    have hst : stepB x = true := by rw [stepB, hpx]; rfl
    go_wp2_with fail
    go_roundg (l.length - (j + 1))
    case measure => omega
    case rel => exact ⟨j + 1, by omega, by go_num, by rw [htk.out, List.all_append, hall.out]; simp [hst], hb.out.step hb2.out⟩
   | false =>
    go_wp2_with fail
    refine (hnm.out _ _ hxs).mono ?_
    rintro e w3 ⟨rfl, hb3⟩
    replace hb3 := hid hb3
    cases hnx : isNm x with
    | true =>
     have hst : stepB x = true := by rw [stepB, hpx, hnx]; rfl
     go_wp2_with fail
     go_roundg (l.length - (j + 1))
     case measure => omega
     case rel => exact ⟨j + 1, by omega, by go_num, by rw [htk.out, List.all_append, hall.out]; simp [hst], (hb.out.step hb2.out).step hb3.out⟩
    | false =>
     have hst : stepB x = false := by rw [stepB, hpx, hnx]; rfl
     have hr := hno.out x hmem.out hst
     subst hr
     go_wp2_with fail
     go_returns
     exact ⟨((hB1.out.step hb.out).step hb2.out).step hb3.out, rfl⟩
  ·have hjl : l.take j = l := List.take_of_length_le (by omega)
   have hr2 := hyes.out (by omega) (by rw [← hjl]; exact hall.out)
   subst hr2
   have hcells : Hid (∀ (w2 : World), Below wr.heap.size wr w2 → ∀ j u, (l.map Value.string)[j]? = some u → w2.cell? ((⟨w.heap.size, 0, none⟩ : Addr).add j) = some u) := fun w2 h2 k u hu => by
    have hk : k < l.length := by have := (List.getElem?_eq_some_iff.1 hu).1; rwa [List.length_map] at this
    rw [← hfull.out, List.getElem?_take, if_pos hk, Array.getElem?_toList] at hu
    rw [addr_at, Nat.zero_add]
    exact box_at ((h2.block _ (lt_of_block hr.out)).trans hr.out) hu
   have hone : Hid (∀ u ∈ l.map Value.string, u.oneCell' = true) := fun u hu => by
    obtain ⟨x, _, rfl⟩ := List.mem_map.1 hu
    rfl
   have hBw := hid (hB1.out.step hb.out)
   go_wp2_with (first
    | (at_make; refine wpList_make_own _ rfl _ _ 57 rfl wr.heap.size 9 i0 _ 1 Tryz.underlying57 hi hz0 hz1 .i64 .i64 _ l.length rfl rfl rfl (by rw [hz2]; omega) (by unfold maxLen; omega) (Nat.le_refl _) ?_; intro w4 hown4 hg4; replace hown4 := hid hown4; have hB4 := hid (grown_below hg4); clear hg4)
    | (at_builtin; (refine wpList_append_own_any _ rfl _ _ 57 rfl wr.heap.size 9 i0 (.string ByteArray.empty) 1 16 Tryz.underlying57 hi hz0 hz1 hz2 rfl (by decide) _ 0 [] rfl hown4.out (some ⟨w.heap.size, 0, none⟩) l.length N (l.map Value.string) rfl (by rw [List.length_map, Nat.mul_one]) (fun h => by cases h) (fun ad had => by obtain rfl := Option.some.inj had; exact hcells.out _ hB4.out) hone.out (by unfold maxLen; omega) (by omega) hB4.out.size ?_); intro v5 w5 hown5 hg5))
   have hB5 := hB4.out.grown hg5 hB4.out.size (fun k hk => (hown4.out.lt k hk).1)
   rw [Nat.zero_add, List.nil_append] at hown5
   go_returns
   exact ⟨hBw.out.step hB5, _, rfl, (own_strs hown5).keep (fun b hb => ⟨Nat.le_trans hBw.out.size hb.1, hb.2⟩) (fun _ _ => rfl)⟩
end Go.Proofs.YthjihdpleclejaaGreatDoor
namespace Go.Proofs.YthjihdpleclejaaGreatDoor
open Go.RowKit Go.Proofs
theorem mx_of {w : World} (h : w.ShapedOpen Tryz.prog) : Mx w := Tryz.laysM147.s1_3 w h
end Go.Proofs.YthjihdpleclejaaGreatDoor
