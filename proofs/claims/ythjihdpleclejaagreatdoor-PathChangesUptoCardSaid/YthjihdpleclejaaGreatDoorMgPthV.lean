/-
  Plain paths: where steps lead in a value; what becomes of a value with a change at their end; the document's way. No condition.
  Plain paths: what lies where behind a change. No condition.
  Plain paths: what stays good; the statements' laws of paths. No condition.
  Plain paths: what is taken out leaves a good value good; two changes at one place; a changed value's mass. No condition.
  Plain paths: the document's With, field by field, is the program's change at a name's place. No condition.
  Plain: the examples' value, what is found in it and put. No condition.
  Plain: what a change at the end of a path tells, arm by arm. No condition.
  Plain: what was set is got; what was unset is not. No condition.
-/
import Derived.Test.YthjihdpleclejaaGreatDoorMgPthP
import Derived.Test.YthjihdpleclejaaGreatDoorMgPlain
import Derived.Test.YthjihdpleclejaaGreatDoorMgVal12
namespace Go.Proofs.YthjihdpleclejaaGreatDoor
def findP (nm : ByteArray) : List ByteArray → List PVal → Option PVal
 | a :: r, x :: xs => if a = nm then some x else findP nm r xs
 | _, _ => none
def posP (nm : ByteArray) : List ByteArray → Nat
 | [] => 0
 | a :: r => if scmp a nm < 0 then posP nm r + 1 else 0
theorem posP_le (nm : ByteArray) : ∀ fn, posP nm fn ≤ fn.length
 | [] => Nat.le_refl _
 | a :: r => by
  rw [posP]
  split
  ·have := posP_le nm r; simp only [List.length_cons]; omega
  ·omega
theorem posP_is (nm : ByteArray) : ∀ (fn : List ByteArray) (i : Nat), i ≤ fn.length → (∀ (t : Nat) a, t < i → fn[t]? = some a → scmp a nm < 0) → (∀ a, fn[i]? = some a → ¬ scmp a nm < 0) → posP nm fn = i
 | [], i, h, _, _ => by simp only [List.length_nil] at h; rw [posP]; omega
 | a :: r, 0, _, _, h2 => by rw [posP, if_neg (h2 a rfl)]
 | a :: r, i + 1, h, h1, h2 => by
  rw [posP, if_pos (h1 0 a (by omega) rfl), posP_is nm r i (by simpa using h) (fun t b ht hb => h1 (t + 1) b (by omega) (by simpa using hb)) (fun b hb => h2 b (by simpa using hb))]
def Up (fn : List ByteArray) : Prop := fn.Pairwise (fun a b => scmp a b < 0)
theorem up_of : ∀ {fn : List ByteArray}, rising fn = true → Up fn
 | [], _ => List.Pairwise.nil
 | [a], _ => by simp [Up]
 | a :: b :: r, h => by
  rw [rising, Bool.and_eq_true] at h
  have ih := up_of h.2
  have hab : scmp a b < 0 := by rw [scmp_less, if_pos h.1]; omega
  refine List.Pairwise.cons (fun x hx => ?_) ih
  rcases List.mem_cons.1 hx with rfl | hx
  ·exact hab
  ·have hbx := (List.pairwise_cons.1 ih).1 x hx
   exact (scmp_trans (Int.le_of_lt hab) (Int.le_of_lt hbx)).2.1 hab
theorem rising_of : ∀ {fn : List ByteArray}, Up fn → rising fn = true
 | [], _ => rfl
 | [a], _ => rfl
 | a :: b :: r, h => by
  have h' := List.pairwise_cons.1 h
  rw [rising, rising_of h'.2, Bool.and_true]
  have hab := h'.1 b (by simp)
  rw [scmp_less] at hab
  split at hab
  ·assumption
  ·split at hab <;> omega
theorem scmp_self (a : ByteArray) : scmp a a = 0 := scmp_zero.2 rfl
theorem find_pos (nm : ByteArray) : ∀ (fn : List ByteArray) (fv : List PVal), Up fn → findP nm fn fv = if fn[posP nm fn]? = some nm then fv[posP nm fn]? else none
 | [], fv, _ => by simp [findP]
 | a :: r, [], h => by simp [findP]
 | a :: r, x :: xs, h => by
  have h' := List.pairwise_cons.1 h
  rw [findP, posP]
  by_cases e : a = nm
  ·subst e
   have hs : ¬ scmp a a < 0 := by rw [scmp_self]; omega
   rw [if_pos rfl, if_neg hs]
   simp
  ·rw [if_neg e]
   by_cases hl : scmp a nm < 0
   ·rw [if_pos hl, find_pos nm r xs h'.2]
    simp
   ·rw [if_neg hl, find_pos nm r xs h'.2]
    have h2 : ¬ r[posP nm r]? = some nm := fun hr => by
     have := h'.1 nm (List.mem_of_getElem? hr)
     omega
    rw [if_neg h2]
    simp [e]
def leads (v : PVal) (s : ByteArray) : Option PVal :=
 match place s with
 | some n => if v.k = 5 then v.l[n]? else none
 | none => if v.k = 6 then findP s v.fn v.fv else none
def getP : PVal → List ByteArray → Option PVal
 | v, [] => some v
 | v, s :: r => match leads v s with
  | some x => getP x r
  | none => none
def zeroP : PVal := .mk 0 0 ByteArray.empty [] [] []
def docE : PVal := .mk 6 0 ByteArray.empty [] [] []
def docL (fn : List ByteArray) (fv : List PVal) : PVal := .mk 6 0 ByteArray.empty [] fn fv
def insA {α : Type} (l : List α) (i : Nat) (x : α) : List α := l.take i ++ x :: l.drop i
structure Chg where
  v : PVal
  gone : Bool
  e : Int
def atL (v : PVal) (n : Nat) (q : Chg) : Chg := ⟨listV (if q.gone = true then v.l.eraseIdx n else v.l.set n q.v), false, q.e⟩
def atF (v : PVal) (s : ByteArray) (q : Chg) : Chg :=
 let i := posP s v.fn
 if v.fn[i]? = some s then ⟨docL (if q.gone = true then v.fn.eraseIdx i else v.fn) (if q.gone = true then v.fv.eraseIdx i else v.fv.set i q.v), false, q.e⟩
 else ⟨docL (if q.gone = true then v.fn else insA v.fn i s) (if q.gone = true then v.fv else insA v.fv i q.v), false, q.e⟩
def atP (tf : PVal → Chg) (lays : Bool) : PVal → List ByteArray → Chg
 | v, [] => tf v
 | v, s :: r =>
  match place s with
  | some n => if v.k ≠ 5 then ⟨zeroP, false, 7⟩ else match v.l[n]? with
   | none => ⟨zeroP, false, 8⟩
   | some y => atL v n (atP tf lays y r)
  | none => if v.k ≠ 6 then ⟨zeroP, false, 7⟩ else
   match findP s v.fn v.fv with
   | some y => atF v s (atP tf lays y r)
   | none => if lays = false then ⟨zeroP, false, 8⟩ else atF v s (atP tf lays docE r)
def toldP (q : Chg) : PVal × Int := if q.e ≠ 0 then (zeroP, q.e) else if q.v.good ≠ 0 then (zeroP, q.v.good) else (q.v, 0)
def askP (v : PVal) (p : ByteArray) (also : List PVal) : Int :=
 if v.good ≠ 0 then v.good else if stepsP p = none then 14 else (also.find? (fun x => x.good != 0)).elim 0 PVal.good
def doneP (tf : PVal → Chg) (lays : Bool) (v : PVal) (p : ByteArray) (also : List PVal) : PVal × Int :=
 if askP v p also ≠ 0 then (zeroP, askP v p also) else toldP (atP tf lays v ((stepsP p).getD []))
def toSet (x : PVal) (_ : PVal) : Chg := ⟨x, false, 0⟩
def toGone (_ : PVal) : Chg := ⟨zeroP, true, 0⟩
def toPush (x y : PVal) : Chg := if y.k ≠ 5 then ⟨zeroP, false, 7⟩ else ⟨listV (y.l ++ [x]), false, 0⟩
def toAdd (n : Int) (y : PVal) : Chg := if y.k ≠ 3 then ⟨zeroP, false, 7⟩ else if y.n + n < -9223372036854775808 ∨ 9223372036854775807 < y.n + n then ⟨zeroP, false, 12⟩ else ⟨intV (y.n + n), false, 0⟩
def gotP (v : PVal) (p : ByteArray) : Option PVal := if v.good ≠ 0 then none else (stepsP p).bind (getP v)
def setP (v : PVal) (p : ByteArray) (x : PVal) : PVal × Int := doneP (toSet x) true v p [x]
def unsetP (v : PVal) (p : ByteArray) : PVal × Int :=
 if askP v p [] ≠ 0 then (zeroP, askP v p []) else if gotP v p = none then (v, 0) else doneP toGone false v p []
def thereP (tf : PVal → Chg) (v : PVal) (p : ByteArray) (also : List PVal) : PVal × Int :=
 let r := doneP tf false v p also
 if r.2 = 0 then r else if askP v p also ≠ 0 then (zeroP, r.2) else if gotP v p = none then (zeroP, 8) else (zeroP, r.2)
def pushP (v : PVal) (p : ByteArray) (x : PVal) : PVal × Int := thereP (toPush x) v p [x]
def addP (v : PVal) (p : ByteArray) (n : Int) : PVal × Int := thereP (toAdd n) v p []
end Go.Proofs.YthjihdpleclejaaGreatDoor
namespace Go.Proofs.YthjihdpleclejaaGreatDoor
theorem scmp_ne {a b : ByteArray} (h : scmp a b < 0) : a ≠ b := fun e => by subst e; rw [scmp_self] at h; omega
theorem find_some {s : ByteArray} {fn : List ByteArray} {fv : List PVal} {y : PVal} (hu : Up fn) (h : findP s fn fv = some y) : fn[posP s fn]? = some s ∧ fv[posP s fn]? = some y := by
 rw [find_pos s fn fv hu] at h
 split at h
 ·rename_i e; exact ⟨e, h⟩
 ·cases h
theorem up_del {fn : List ByteArray} (hu : Up fn) (i : Nat) : Up (fn.eraseIdx i) := List.Pairwise.sublist (List.eraseIdx_sublist _ _) hu
-- two places are the same if their steps are
theorem atL_set (v : PVal) (n : Nat) {q : Chg} (hg : q.gone = false) : (atL v n q).v = listV (v.l.set n q.v) := by unfold atL; simp [hg]
def Sound (v : PVal) : Prop := v.fits ∧ v.all formedB = true
theorem all_at {p : PVal → Bool} {v : PVal} (h : v.all p = true) : p v = true := by
 rw [all_parts, Bool.and_eq_true] at h; exact h.1
theorem all_part {p : PVal → Bool} {v x : PVal} (h : v.all p = true) (hx : x ∈ v.parts) : x.all p = true := by
 rw [all_parts, Bool.and_eq_true] at h; exact List.all_eq_true.1 h.2 x hx
theorem find_mem {s : ByteArray} : ∀ {fn : List ByteArray} {fv : List PVal} {y : PVal}, findP s fn fv = some y → y ∈ fv
 | a :: r, x :: xs, y, h => by
  rw [findP] at h
  split at h
  ·injection h with h; simp [h]
  ·exact List.mem_cons_of_mem _ (find_mem h)
 | [], _, _, h => by simp [findP] at h
 | _ :: _, [], _, h => by simp [findP] at h
theorem leads_part {v x : PVal} {s : ByteArray} (h : leads v s = some x) : x ∈ v.parts := by
 unfold leads at h
 obtain ⟨k, n, t, l, fn, fv⟩ := v
 split at h
 ·split at h
  ·rename_i hk
   simp only [PVal.k] at hk
   simp only [PVal.parts, hk, if_true]
   exact List.mem_of_getElem? h
  ·cases h
 ·split at h
  ·rename_i hk
   simp only [PVal.k] at hk
   simp only [PVal.parts, hk]
   exact find_mem h
  ·cases h
theorem fits_part {v x : PVal} (h : v.fits) (hx : x ∈ v.parts) : x.fits := by
 obtain ⟨k, n, t, l, fn, fv⟩ := v
 simp only [PVal.fits, fitsL_iff] at h
 simp only [PVal.parts] at hx
 split at hx
 ·exact h.2.2.2.2.2.2.2.1 x hx
 ·split at hx
  ·exact h.2.2.2.2.2.2.2.2 x hx
  ·cases hx
theorem Sound.part {v x : PVal} (h : Sound v) (hx : x ∈ v.parts) : Sound x := ⟨fits_part h.1 hx, all_part h.2 hx⟩
theorem Sound.up {v : PVal} (h : Sound v) : Up v.fn := by
 have h1 := all_at h.2
 obtain ⟨k, n, t, l, fn, fv⟩ := v
 simp only [formedB, Bool.and_eq_true] at h1
 exact up_of h1.2
theorem Sound.len {v : PVal} (h : Sound v) : v.fn.length = v.fv.length := by
 obtain ⟨k, n, t, l, fn, fv⟩ := v
 have h1 := h.1
 simp only [PVal.fits] at h1
 exact h1.2.2.2.2.1
theorem sound_docE : Sound docE := by
 refine ⟨?_, by decide +kernel⟩
 simp only [docE, PVal.fits, fitsL, I64, Lim]
 simp
theorem leads_place {v : PVal} {s : ByteArray} {n : Nat} (h : place s = some n) : leads v s = if v.k = 5 then v.l[n]? else none := by unfold leads; rw [h]
theorem leads_name {v : PVal} {s : ByteArray} (h : place s = none) : leads v s = if v.k = 6 then findP s v.fn v.fv else none := by unfold leads; rw [h]
theorem atP_nil (tf : PVal → Chg) (lays : Bool) (v : PVal) : atP tf lays v [] = tf v := by rw [atP]
theorem atP_cons (tf : PVal → Chg) (lays : Bool) (v : PVal) (s : ByteArray) (r : List ByteArray) : atP tf lays v (s :: r) =
  match place s with
  | some n => if v.k ≠ 5 then ⟨zeroP, false, 7⟩ else match v.l[n]? with
   | none => ⟨zeroP, false, 8⟩
   | some y => atL v n (atP tf lays y r)
  | none => if v.k ≠ 6 then ⟨zeroP, false, 7⟩ else
   match findP s v.fn v.fv with
   | some y => atF v s (atP tf lays y r)
   | none => if lays = false then ⟨zeroP, false, 8⟩ else atF v s (atP tf lays docE r) := by
 rw [atP]
 all_goals rfl
theorem atP_gone {tf : PVal → Chg} {lays : Bool} (h : ∀ y, (tf y).gone = false) : ∀ (l : List ByteArray) (v : PVal), (atP tf lays v l).gone = false
 | [], v => by rw [atP_nil]; exact h v
 | s :: r, v => by
  rw [atP_cons]
  split
  ·split
   ·rfl
   ·split <;> rfl
  ·split
   ·rfl
   ·split
    ·unfold atF; simp only; split <;> rfl
    ·split
     ·rfl
     ·unfold atF; simp only; split <;> rfl
theorem atP_gone' {tf : PVal → Chg} {lays : Bool} (v : PVal) (s : ByteArray) (r : List ByteArray) : (atP tf lays v (s :: r)).gone = false := by
 rw [atP_cons]
 split
 ·split
  ·rfl
  ·split <;> rfl
 ·split
  ·rfl
  ·split
   ·unfold atF; simp only; split <;> rfl
   ·split
    ·rfl
    ·unfold atF; simp only; split <;> rfl
theorem atF_e (v : PVal) (s : ByteArray) (q : Chg) : (atF v s q).e = q.e := by unfold atF; simp only; split <;> rfl
end Go.Proofs.YthjihdpleclejaaGreatDoor
namespace Go.Proofs.YthjihdpleclejaaGreatDoor
theorem good_iff (v : PVal) : v.good = 0 ↔ v.all formedB = true ∧ v.all spelledB = true ∧ v.all fewB = true ∧ v.depth ≤ 8 ∧ v.size ≤ 2048 := by
 unfold PVal.good
 constructor
 ·intro h
  split at h
  ·simp at h
  split at h
  ·simp at h
  split at h
  ·simp at h
  split at h
  ·simp at h
  split at h
  ·simp at h
  rename_i h1 h2 h3 h4 h5
  exact ⟨by simpa using h1, by simpa using h2, by simpa using h3, by omega, by omega⟩
 ·rintro ⟨h1, h2, h3, h4, h5⟩
  rw [if_neg (by simp [h1]), if_neg (by simp [h2]), if_neg (by simp [h3]), if_neg (by omega), if_neg (by omega)]
theorem depthL_mem {l : List PVal} {x : PVal} (h : x ∈ l) : x.depth ≤ depthL l := by
 induction l with
 | nil => cases h
 | cons y r ih =>
  rw [depthL]
  rcases List.mem_cons.1 h with rfl | h
  ·omega
  ·have := ih h; omega
theorem getP_cons {v : PVal} {s : ByteArray} {r : List ByteArray} {x : PVal} (h : getP v (s :: r) = some x) : ∃ y, leads v s = some y ∧ getP y r = some x := by
 rw [getP] at h
 split at h
 ·rename_i y hy; exact ⟨y, hy, h⟩
 ·cases h
theorem mass_getP : ∀ (l : List ByteArray) (v x : PVal), getP v l = some x → x.mass ≤ v.mass
 | [], v, x, hx => by injection hx with hx; exact hx ▸ Nat.le_refl _
 | s :: r, v, x, hx => by
  obtain ⟨y, hy, hx⟩ := getP_cons hx
  exact Nat.le_trans (mass_getP r y x hx) (parts_mass v y (leads_part hy))
theorem atP_e {tf : PVal → Chg} (lays : Bool) : ∀ (a : List ByteArray) (v x : PVal), getP v a = some x → (atP tf lays v a).e = (tf x).e
 | [], v, x, h => by injection h with h; rw [atP_nil, h]
 | s :: r, v, x, h => by
  obtain ⟨y, hy, hx⟩ := getP_cons h
  have ih := atP_e (tf := tf) lays r y x hx
  rw [atP_cons]
  cases hp : place s with
  | some n =>
   rw [leads_place hp] at hy
   split at hy
   ·rename_i hk
    simp only [hk, hy]
    exact ih
   ·cases hy
  | none =>
   rw [leads_name hp] at hy
   split at hy
   ·rename_i hk
    simp only [hk, hy]
    simp only [ne_eq, not_true_eq_false, if_false, atF_e]
    exact ih
   ·cases hy
theorem atP_lost {tf : PVal → Chg} : ∀ (a : List ByteArray) (v : PVal), getP v a = none → (atP tf false v a).e ≠ 0
 | [], v, h => by cases h
 | s :: r, v, h => by
  rw [atP_cons]
  rw [getP] at h
  cases hp : place s with
  | some n =>
   rw [leads_place hp] at h
   by_cases hk : v.k = 5
   ·rw [if_pos hk] at h
    simp only [hk, ne_eq, not_true_eq_false, if_false]
    cases hy : v.l[n]? with
    | none => simp
    | some y =>
     rw [hy] at h
     exact atP_lost r y h
   ·simp [hk]
  | none =>
   rw [leads_name hp] at h
   by_cases hk : v.k = 6
   ·rw [if_pos hk] at h
    simp only [hk, ne_eq, not_true_eq_false, if_false]
    cases hy : findP s v.fn v.fv with
    | none => simp
    | some y =>
     rw [hy] at h
     simp only [atF_e]
     exact atP_lost r y h
   ·simp [hk]
theorem list_whole {v : PVal} (hv : Sound v) (hk : v.k = 5) : v = listV v.l := by
 have h1 := all_at hv.2
 have h2 := hv.len
 obtain ⟨k, n, s, l, fn, fv⟩ := v
 simp only [PVal.k] at hk
 subst hk
 simp only [formedB, Bool.and_eq_true, decide_eq_true_eq] at h1
 obtain ⟨⟨⟨⟨⟨⟨_, _⟩, hn⟩, hs⟩, _⟩, hf⟩, _⟩ := h1
 have hf0 : fv = [] := List.length_eq_zero_iff.1 (hf (by omega))
 subst hf0
 have hn0 := hn (by omega) (by omega)
 subst hn0
 have hs0 : s = ByteArray.empty := by
  have := hs (by omega)
  rw [← bar_of s]
  have h3 : s.data.toList = [] := by rw [← ByteArray.toList_eq]; exact this
  rw [h3]; rfl
 subst hs0
 simp only [PVal.fn, PVal.fv, List.length_nil] at h2
 rw [List.length_eq_zero_iff.1 h2]
 rfl
theorem doc_whole {v : PVal} (hv : Sound v) (hk : v.k = 6) : v = docL v.fn v.fv := by
 have h1 := all_at hv.2
 obtain ⟨k, n, s, l, fn, fv⟩ := v
 simp only [PVal.k] at hk
 subst hk
 simp only [formedB, Bool.and_eq_true, decide_eq_true_eq] at h1
 obtain ⟨⟨⟨⟨⟨⟨_, _⟩, hn⟩, hs⟩, hl⟩, _⟩, _⟩ := h1
 have hf0 : l = [] := List.length_eq_zero_iff.1 (hl (by omega))
 subst hf0
 have hn0 := hn (by omega) (by omega)
 subst hn0
 have hs0 : s = ByteArray.empty := by
  have := hs (by omega)
  rw [← bar_of s]
  have h3 : s.data.toList = [] := by rw [← ByteArray.toList_eq]; exact this
  rw [h3]; rfl
 subst hs0
 rfl
end Go.Proofs.YthjihdpleclejaaGreatDoor
namespace Go.Proofs.YthjihdpleclejaaGreatDoor
theorem depthL_le {l : List PVal} {D : Nat} : depthL l ≤ D ↔ ∀ x ∈ l, x.depth ≤ D := by
 induction l with
 | nil => simp [depthL]
 | cons y r ih => rw [depthL, List.forall_mem_cons, ← ih]; omega
theorem depthL_set {l : List PVal} {n : Nat} {y q : PVal} (h : l[n]? = some y) (hq : q.depth ≤ y.depth) : depthL (l.set n q) ≤ depthL l :=
 depthL_le.2 fun x hx => by
  rcases List.mem_or_eq_of_mem_set hx with hx | rfl
  ·exact depthL_mem hx
  ·exact Nat.le_trans hq (depthL_mem (List.mem_of_getElem? h))
theorem depthL_erase (l : List PVal) (n : Nat) : depthL (l.eraseIdx n) ≤ depthL l := depthL_le.2 fun _ hx => depthL_mem (List.mem_of_mem_eraseIdx hx)
theorem sizeL_set : ∀ {l : List PVal} {n : Nat} {y q : PVal}, l[n]? = some y → sizeL (l.set n q) + y.size = sizeL l + q.size
 | [], _, _, _, h => by simp at h
 | a :: r, 0, y, q, h => by
  obtain rfl : a = y := by simpa using h
  simp only [List.set_cons_zero, sizeL]; omega
 | a :: r, n + 1, y, q, h => by
  have := sizeL_set (l := r) (n := n) (y := y) (q := q) (by simpa using h)
  simp only [List.set_cons_succ, sizeL]; omega
theorem sizeL_erase : ∀ (l : List PVal) (n : Nat), sizeL (l.eraseIdx n) ≤ sizeL l
 | [], _ => by simp
 | a :: r, 0 => by simp only [List.eraseIdx_cons_zero, sizeL]; omega
 | a :: r, n + 1 => by have := sizeL_erase r n; simp only [List.eraseIdx_cons_succ, sizeL]; omega
theorem names_erase : ∀ (l : List ByteArray) (n : Nat), namesSize (l.eraseIdx n) ≤ namesSize l
 | [], _ => by simp
 | a :: r, 0 => by simp only [List.eraseIdx_cons_zero, namesSize]; omega
 | a :: r, n + 1 => by have := names_erase r n; simp only [List.eraseIdx_cons_succ, namesSize]; omega
theorem all_set {p : PVal → Bool} {l : List PVal} {n : Nat} {q : PVal} (h : l.all p = true) (hq : p q = true) : (l.set n q).all p = true :=
 List.all_eq_true.2 fun x hx => by
  rcases List.mem_or_eq_of_mem_set hx with hx | rfl
  ·exact List.all_eq_true.1 h x hx
  ·exact hq
theorem all_erase {α : Type} {p : α → Bool} {l : List α} (n : Nat) (h : l.all p = true) : (l.eraseIdx n).all p = true :=
 List.all_eq_true.2 fun _ hx => List.all_eq_true.1 h _ (List.mem_of_mem_eraseIdx hx)
theorem all_docL (p : PVal → Bool) (fn : List ByteArray) (fv : List PVal) : (docL fn fv).all p = (p (docL fn fv) && fv.all (·.all p)) := by simp [docL, PVal.all, allL_eq]
theorem formed_docL (fn : List ByteArray) (fv : List PVal) : formedB (docL fn fv) = rising fn := by simp [docL, formedB]
theorem spelled_docL (fn : List ByteArray) (fv : List PVal) : spelledB (docL fn fv) = fn.all utf := by simp [docL, spelledB, utf_empty]
theorem few_docL (fn : List ByteArray) (fv : List PVal) : fewB (docL fn fv) = (decide (fv.length ≤ 32) && fn.all fun x => decide (1 ≤ x.size ∧ x.size ≤ 24)) := by simp [docL, fewB]
theorem depth_listV (l : List PVal) : (listV l).depth = depthL l + 1 := by simp [listV, PVal.depth]
theorem depth_docL (fn : List ByteArray) (fv : List PVal) : (docL fn fv).depth = depthL fv + 1 := by simp [docL, PVal.depth]
theorem size_listV (l : List PVal) : (listV l).size = 1 + (digits l.length + sizeL l) := by simp [listV, PVal.size]
theorem size_docL (fn : List ByteArray) (fv : List PVal) : (docL fn fv).size = 1 + (digits fv.length + namesSize fn + sizeL fv) := by simp [docL, PVal.size]
def Below' (x v : PVal) : Prop := x.all formedB = true ∧ x.all spelledB = true ∧ x.all fewB = true ∧ x.depth ≤ v.depth ∧ x.size ≤ v.size
theorem listV_set {l : List PVal} {n : Nat} {y q : PVal} (hf : (listV l).all formedB = true) (hs : (listV l).all spelledB = true) (hw : (listV l).all fewB = true) (hy : l[n]? = some y) (hq : Below' q y) : Below' (listV (l.set n q)) (listV l) := by
 obtain ⟨q1, q2, q3, q4, q5⟩ := hq
 rw [all_list, Bool.and_eq_true] at hf hs hw
 have := sizeL_set (q := q) hy
 have := depthL_set hy q4
 refine ⟨by rw [all_list, formed_list, Bool.true_and]; exact all_set hf.2 q1, by rw [all_list, spelled_list, Bool.true_and]; exact all_set hs.2 q2, by rw [all_list, few_list, Bool.and_eq_true]; exact ⟨by rw [List.length_set]; simpa [few_list] using hw.1, all_set hw.2 q3⟩, ?_, ?_⟩
 ·rw [depth_listV, depth_listV]; omega
 ·rw [size_listV, size_listV, List.length_set]; omega
theorem listV_erase {l : List PVal} (n : Nat) (hf : (listV l).all formedB = true) (hs : (listV l).all spelledB = true) (hw : (listV l).all fewB = true) : Below' (listV (l.eraseIdx n)) (listV l) := by
 rw [all_list, Bool.and_eq_true] at hf hs hw
 have h1 := sizeL_erase l n
 have h2 := depthL_erase l n
 have h3 : (l.eraseIdx n).length ≤ l.length := (List.eraseIdx_sublist l n).length_le
 have h4 : l.length ≤ 32 := by simpa [few_list] using hw.1
 refine ⟨by rw [all_list, formed_list, Bool.true_and]; exact all_erase n hf.2, by rw [all_list, spelled_list, Bool.true_and]; exact all_erase n hs.2, by rw [all_list, few_list, Bool.and_eq_true]; exact ⟨by simp; omega, all_erase n hw.2⟩, ?_, ?_⟩
 ·rw [depth_listV, depth_listV]; omega
 ·rw [size_listV, size_listV, digits_small (by omega), digits_small (by omega)]; omega
theorem docL_set {fn : List ByteArray} {fv : List PVal} {n : Nat} {y q : PVal} (hf : (docL fn fv).all formedB = true) (hs : (docL fn fv).all spelledB = true) (hw : (docL fn fv).all fewB = true) (hy : fv[n]? = some y) (hq : Below' q y) : Below' (docL fn (fv.set n q)) (docL fn fv) := by
 obtain ⟨q1, q2, q3, q4, q5⟩ := hq
 rw [all_docL, Bool.and_eq_true] at hf hs hw
 rw [formed_docL] at hf
 rw [spelled_docL] at hs
 rw [few_docL] at hw
 have := sizeL_set (q := q) hy
 have := depthL_set hy q4
 refine ⟨by rw [all_docL, formed_docL, Bool.and_eq_true]; exact ⟨hf.1, all_set hf.2 q1⟩, by rw [all_docL, spelled_docL, Bool.and_eq_true]; exact ⟨hs.1, all_set hs.2 q2⟩, by rw [all_docL, few_docL, Bool.and_eq_true, List.length_set]; exact ⟨hw.1, all_set hw.2 q3⟩, ?_, ?_⟩
 ·rw [depth_docL, depth_docL]; omega
 ·rw [size_docL, size_docL, List.length_set]; omega
theorem docL_erase {fn : List ByteArray} {fv : List PVal} (n : Nat) (hf : (docL fn fv).all formedB = true) (hs : (docL fn fv).all spelledB = true) (hw : (docL fn fv).all fewB = true) : Below' (docL (fn.eraseIdx n) (fv.eraseIdx n)) (docL fn fv) := by
 rw [all_docL, Bool.and_eq_true] at hf hs hw
 rw [formed_docL] at hf
 rw [spelled_docL] at hs
 rw [few_docL, Bool.and_eq_true] at hw
 have h1 := sizeL_erase fv n
 have h2 := depthL_erase fv n
 have h3 : (fv.eraseIdx n).length ≤ fv.length := (List.eraseIdx_sublist fv n).length_le
 have h4 : fv.length ≤ 32 := by simpa using hw.1.1
 have h5 := names_erase fn n
 refine ⟨by rw [all_docL, formed_docL, Bool.and_eq_true]; exact ⟨rising_of (up_del (up_of hf.1) n), all_erase n hf.2⟩, by rw [all_docL, spelled_docL, Bool.and_eq_true]; exact ⟨all_erase n hs.1, all_erase n hs.2⟩, by rw [all_docL, few_docL, Bool.and_eq_true, Bool.and_eq_true]; exact ⟨⟨by simp; omega, all_erase n hw.1.2⟩, all_erase n hw.2⟩, ?_, ?_⟩
 ·rw [depth_docL, depth_docL]; omega
 ·rw [size_docL, size_docL, digits_small (by omega), digits_small (by omega)]; omega
theorem leads_list {v y : PVal} {s : ByteArray} {n : Nat} (hp : place s = some n) (hy : leads v s = some y) : v.k = 5 ∧ v.l[n]? = some y := by
 rw [leads_place hp] at hy
 split at hy
 ·exact ⟨by assumption, hy⟩
 ·cases hy
theorem leads_doc {v y : PVal} {s : ByteArray} (hv : Sound v) (hp : place s = none) (hy : leads v s = some y) : v.k = 6 ∧ findP s v.fn v.fv = some y ∧ v.fn[posP s v.fn]? = some s ∧ v.fv[posP s v.fn]? = some y := by
 rw [leads_name hp] at hy
 split at hy
 ·exact ⟨by assumption, hy, find_some hv.up hy⟩
 ·cases hy
theorem atP_list {tf : PVal → Chg} {lays : Bool} {v y : PVal} {s : ByteArray} {n : Nat} (hp : place s = some n) (hk : v.k = 5) (hy : v.l[n]? = some y) (r : List ByteArray) : atP tf lays v (s :: r) = atL v n (atP tf lays y r) := by
 rw [atP_cons, hp]; simp [hk, hy]
theorem atP_doc {tf : PVal → Chg} {lays : Bool} {v y : PVal} {s : ByteArray} (hp : place s = none) (hk : v.k = 6) (hy : findP s v.fn v.fv = some y) (r : List ByteArray) : atP tf lays v (s :: r) = atF v s (atP tf lays y r) := by
 rw [atP_cons, hp]; simp [hk, hy]
theorem atF_has {v : PVal} {s : ByteArray} (h : v.fn[posP s v.fn]? = some s) (q : Chg) : atF v s q = ⟨docL (if q.gone = true then v.fn.eraseIdx (posP s v.fn) else v.fn) (if q.gone = true then v.fv.eraseIdx (posP s v.fn) else v.fv.set (posP s v.fn) q.v), false, q.e⟩ := by
 unfold atF; simp [h]
theorem gone_less {lays : Bool} : ∀ (a : List ByteArray) (v x : PVal), a ≠ [] → Sound v → v.all spelledB = true → v.all fewB = true → getP v a = some x → Below' (atP toGone lays v a).v v
 | [], v, x, h, _, _, _, _ => absurd rfl h
 | s :: r, v, x, _, hv, hs, hw, h => by
  obtain ⟨y, hy, hx⟩ := getP_cons h
  have hyp := leads_part hy
  have hb : Below' (atP toGone lays v (s :: r)).v v := by
   cases hp : place s with
   | some n =>
    obtain ⟨hk, hn⟩ := leads_list hp hy
    rw [atP_list hp hk hn]
    have hv' := list_whole hv hk
    have hf := hv.2
    rw [hv'] at hf hs hw
    conv => rhs; rw [hv']
    cases r with
    | nil => simpa [atP_nil, toGone, atL] using listV_erase n hf hs hw
    | cons t u =>
     have ih := gone_less (lays := lays) (t :: u) y x (by simp) (hv.part hyp) (all_part (v := v) (by rw [hv']; exact hs) hyp) (all_part (v := v) (by rw [hv']; exact hw) hyp) hx
     have hg := atP_gone' (tf := toGone) (lays := lays) y t u
     simpa [atL, hg] using listV_set hf hs hw hn ih
   | none =>
    obtain ⟨hk, hfd, h1, h2⟩ := leads_doc hv hp hy
    rw [atP_doc hp hk hfd, atF_has h1]
    have hv' := doc_whole hv hk
    have hf := hv.2
    rw [hv'] at hf hs hw
    conv => rhs; rw [hv']
    cases r with
    | nil => simpa [atP_nil, toGone] using docL_erase _ hf hs hw
    | cons t u =>
     have ih := gone_less (lays := lays) (t :: u) y x (by simp) (hv.part hyp) (all_part (v := v) (by rw [hv']; exact hs) hyp) (all_part (v := v) (by rw [hv']; exact hw) hyp) hx
     have hg := atP_gone' (tf := toGone) (lays := lays) y t u
     simpa [hg] using docL_set hf hs hw h2 ih
  exact hb
theorem gone_good {lays : Bool} {a : List ByteArray} {v x : PVal} (ha : a ≠ []) (hv : v.fits) (hg : v.good = 0) (h : getP v a = some x) : (atP toGone lays v a).v.good = 0 := by
 have hg' := (good_iff v).1 hg
 obtain ⟨h1, h2, h3, h4, h5⟩ := gone_less (lays := lays) a v x ha ⟨hv, hg'.1⟩ hg'.2.1 hg'.2.2.1 h
 exact (good_iff _).2 ⟨h1, h2, h3, by omega, by omega⟩
theorem massL_set : ∀ (l : List PVal) (n : Nat) (q : PVal), massL (l.set n q) ≤ massL l + q.mass
 | [], _, _ => by simp
 | a :: r, 0, q => by simp only [List.set_cons_zero, massL]; omega
 | a :: r, n + 1, q => by have := massL_set r n q; simp only [List.set_cons_succ, massL]; omega
theorem massL_erase : ∀ (l : List PVal) (n : Nat), massL (l.eraseIdx n) ≤ massL l
 | [], _ => by simp
 | a :: r, 0 => by simp only [List.eraseIdx_cons_zero, massL]; omega
 | a :: r, n + 1 => by have := massL_erase r n; simp only [List.eraseIdx_cons_succ, massL]; omega
theorem massF_erase : ∀ (l : List ByteArray) (n : Nat), massF (l.eraseIdx n) ≤ massF l
 | [], _ => by simp
 | a :: r, 0 => by simp only [List.eraseIdx_cons_zero, massF]; omega
 | a :: r, n + 1 => by have := massF_erase r n; simp only [List.eraseIdx_cons_succ, massF]; omega
theorem massL_ins : ∀ (l : List PVal) (n : Nat) (q : PVal), massL (insA l n q) = massL l + q.mass
 | l, 0, q => by simp only [insA, List.take_zero, List.drop_zero, List.nil_append, massL]; omega
 | [], n + 1, q => by simp [insA, massL]
 | a :: r, n + 1, q => by
  have := massL_ins r n q
  simp only [insA, List.take_succ_cons, List.drop_succ_cons, List.cons_append, massL] at this ⊢
  omega
theorem massF_ins : ∀ (l : List ByteArray) (n : Nat) (q : ByteArray), massF (insA l n q) = massF l + (32 + q.size)
 | l, 0, q => by simp only [insA, List.take_zero, List.drop_zero, List.nil_append, massF]; omega
 | [], n + 1, q => by simp [insA, massF]
 | a :: r, n + 1, q => by
  have := massF_ins r n q
  simp only [insA, List.take_succ_cons, List.drop_succ_cons, List.cons_append, massF] at this ⊢
  omega
theorem mass_l (v : PVal) : massL v.l ≤ v.mass := by obtain ⟨k, n, s, l, fn, fv⟩ := v; simp only [PVal.l, PVal.mass]; omega
theorem mass_f (v : PVal) : massF v.fn + massL v.fv ≤ v.mass := by obtain ⟨k, n, s, l, fn, fv⟩ := v; simp only [PVal.fn, PVal.fv, PVal.mass]; omega
theorem mass_listV (l : List PVal) : (listV l).mass = 32 + massL l := by simp [listV, PVal.mass, massL, massF]
theorem mass_docL (fn : List ByteArray) (fv : List PVal) : (docL fn fv).mass = 32 + massF fn + massL fv := by simp [docL, PVal.mass, massL]
theorem mass_zeroP : zeroP.mass = 32 := by simp [zeroP, PVal.mass, massL, massF]
theorem mass_docE : docE.mass = 32 := by simp [docE, PVal.mass, massL, massF]
theorem atL_mass (v : PVal) (n : Nat) (q : Chg) : (atL v n q).v.mass ≤ v.mass + q.v.mass + 32 := by
 have h1 := mass_l v
 unfold atL
 simp only
 rw [mass_listV]
 split
 ·have := massL_erase v.l n; omega
 ·have := massL_set v.l n q.v; omega
theorem atF_mass (v : PVal) (s : ByteArray) (q : Chg) : (atF v s q).v.mass ≤ v.mass + q.v.mass + s.size + 64 := by
 have h1 := mass_f v
 unfold atF
 simp only
 split
 ·rw [mass_docL]
  split
  ·have := massL_erase v.fv (posP s v.fn); have := massF_erase v.fn (posP s v.fn); omega
  ·have := massL_set v.fv (posP s v.fn) q.v; omega
 ·rw [mass_docL]
  split
  ·omega
  ·rw [massL_ins, massF_ins]; omega
theorem atP_mass {tf : PVal → Chg} {lays : Bool} {M T : Nat} (hM : 32 ≤ M) (hT : 32 ≤ T) (hto : ∀ y, y.mass ≤ M → (tf y).v.mass ≤ T) : ∀ (a : List ByteArray) (v : PVal), v.mass ≤ M → (∀ s ∈ a, s.size ≤ 100) → (atP tf lays v a).v.mass ≤ T + a.length * (M + 200)
 | [], v, hv, _ => by rw [atP_nil]; have := hto v hv; simp; omega
 | s :: r, v, hv, ha => by
  have hs := ha s (by simp)
  have ih := fun y hy => atP_mass hM hT hto (lays := lays) r y hy (fun x hx => ha x (by simp [hx]))
  rw [atP_cons, List.length_cons, Nat.succ_mul]
  split
  ·split
   ·rw [mass_zeroP]; omega
   ·split
    ·rw [mass_zeroP]; omega
    ·rename_i y hy
     have h1 := ih y (Nat.le_trans (Nat.le_trans (mass_mem (List.mem_of_getElem? hy)) (mass_l v)) hv)
     refine Nat.le_trans (atL_mass v _ (atP tf lays y r)) ?_
     omega
  ·split
   ·rw [mass_zeroP]; omega
   ·split
    ·rename_i y hy
     have h1 := ih y (Nat.le_trans (Nat.le_trans (Nat.le_trans (mass_mem (find_mem hy)) (by omega)) (mass_f v)) hv)
     have h2 := atF_mass v s (atP tf lays y r)
     omega
    ·split
     ·rw [mass_zeroP]; omega
     ·have h1 := ih docE (by rw [mass_docE]; exact hM)
      have h2 := atF_mass v s (atP tf lays docE r)
      omega
theorem name_size {s : ByteArray} (h : stepB s = true) : s.size ≤ 24 := by
 rw [← bsz_list]
 unfold stepB place isNm at h
 generalize s.data.toList = l at *
 match l, h with
 | [], _ => simp
 | [a], _ => simp
 | [a, b], _ => simp
 | a :: b :: c :: r, h =>
  simp only [placeB, nameB, Option.isSome_none, Bool.false_or, Bool.and_eq_true, decide_eq_true_eq] at h
  simp only [List.length_cons] at h ⊢
  omega
end Go.Proofs.YthjihdpleclejaaGreatDoor
namespace Go.Proofs.YthjihdpleclejaaGreatDoor
def withR (nm : ByteArray) (x : PVal) : Bool → List ByteArray → List PVal → List (ByteArray × PVal)
 | done, a :: r, y :: ys =>
  (if done = false ∧ ¬ scmp a nm < 0 then [(nm, x)] else []) ++ (if a = nm then [] else [(a, y)]) ++ withR nm x (done || decide (¬ scmp a nm < 0)) r ys
 | done, _, _ => if done = false then [(nm, x)] else []
theorem withR_keep (nm : ByteArray) (x : PVal) : ∀ (fn : List ByteArray) (fv : List PVal), fn.length = fv.length → nm ∉ fn → withR nm x true fn fv = fn.zip fv
 | [], _, _, _ => by simp [withR]
 | a :: r, [], h, _ => by simp at h
 | a :: r, y :: ys, hl, h => by
  have h1 : a ≠ nm := fun e => h (by simp [e])
  have ih := withR_keep nm x r ys (by simpa using hl) (fun e => h (List.mem_cons_of_mem _ e))
  simp [withR, h1, ih]
theorem up_not {nm a : ByteArray} {r : List ByteArray} (h : Up (a :: r)) (ha : ¬ scmp a nm < 0) : nm ∉ r := fun e => by
 have := (List.pairwise_cons.1 h).1 nm e
 exact ha this
theorem withR_drop (nm : ByteArray) (x : PVal) : ∀ (fn : List ByteArray) (fv : List PVal), Up fn → fn.length = fv.length → fn[posP nm fn]? = some nm → withR nm x true fn fv = (fn.eraseIdx (posP nm fn)).zip (fv.eraseIdx (posP nm fn))
 | [], _, _, _, h => by simp at h
 | a :: r, [], _, h, _ => by simp at h
 | a :: r, y :: ys, hu, hl, h => by
  rw [posP] at h ⊢
  by_cases ha : scmp a nm < 0
  ·rw [if_pos ha] at h ⊢
   have ih := withR_drop nm x r ys (List.pairwise_cons.1 hu).2 (by simpa using hl) (by simpa using h)
   have h1 := scmp_ne ha
   simp [withR, h1, ih]
  ·rw [if_neg ha] at h ⊢
   obtain rfl : a = nm := by simpa using h
   simp [withR, withR_keep a x r ys (by simpa using hl) (up_not hu ha)]
theorem withR_set (nm : ByteArray) (x : PVal) : ∀ (fn : List ByteArray) (fv : List PVal), Up fn → fn.length = fv.length → withR nm x false fn fv = if fn[posP nm fn]? = some nm then fn.zip (fv.set (posP nm fn) x) else (insA fn (posP nm fn) nm).zip (insA fv (posP nm fn) x)
 | [], [], _, _ => by simp [withR, insA]
 | [], y :: ys, _, h => by simp at h
 | a :: r, [], _, h => by simp at h
 | a :: r, y :: ys, hu, hl => by
  rw [posP]
  by_cases ha : scmp a nm < 0
  ·rw [if_pos ha]
   have ih := withR_set nm x r ys (List.pairwise_cons.1 hu).2 (by simpa using hl)
   have h1 := scmp_ne ha
   simp only [withR, ha, not_true_eq_false, and_false, if_false, h1, List.nil_append, decide_false, Bool.or_false, ih, List.getElem?_cons_succ, List.set_cons_succ]
   split <;> simp [insA]
  ·rw [if_neg ha]
   have hk := withR_keep nm x r ys (by simpa using hl) (up_not hu ha)
   by_cases e : a = nm
   ·subst e
    simp [withR, ha, hk]
   ·simp [withR, ha, hk, e, insA]
theorem insA_len {α : Type} (l : List α) (i : Nat) (x : α) (h : i ≤ l.length) : (insA l i x).length = l.length + 1 := by simp [insA]; omega
theorem zip_fst {α β : Type} {a : List α} {b : List β} (h : a.length = b.length) : (a.zip b).map Prod.fst = a := List.map_fst_zip (by omega)
theorem zip_snd {α β : Type} {a : List α} {b : List β} (h : a.length = b.length) : (a.zip b).map Prod.snd = b := List.map_snd_zip (by omega)
theorem with_at {v : PVal} {s : ByteArray} {q : Chg} (hu : Up v.fn) (hl : v.fn.length = v.fv.length) (hg : q.gone = false) : (atF v s q).v = docL ((withR s q.v false v.fn v.fv).map Prod.fst) ((withR s q.v false v.fn v.fv).map Prod.snd) := by
 have hp := posP_le s v.fn
 rw [withR_set s q.v v.fn v.fv hu hl]
 unfold atF
 simp only [hg, Bool.false_eq_true, if_false]
 split
 ·rename_i h
  rw [zip_fst (by rw [List.length_set]; exact hl), zip_snd (by rw [List.length_set]; exact hl)]
 ·rw [zip_fst (by rw [insA_len _ _ _ hp, insA_len _ _ _ (by omega), hl]), zip_snd (by rw [insA_len _ _ _ hp, insA_len _ _ _ (by omega), hl])]
theorem with_gone {v : PVal} {s : ByteArray} {q : Chg} {x : PVal} (hu : Up v.fn) (hl : v.fn.length = v.fv.length) (hg : q.gone = true) (h : v.fn[posP s v.fn]? = some s) : (atF v s q).v = docL ((withR s x true v.fn v.fv).map Prod.fst) ((withR s x true v.fn v.fv).map Prod.snd) := by
 have h2 : posP s v.fn < v.fv.length := by rw [← hl]; exact (List.getElem?_eq_some_iff.1 h).1
 have h1 := (List.getElem?_eq_some_iff.1 h).1
 rw [withR_drop s x v.fn v.fv hu hl h, atF_has h]
 simp only [hg, if_true]
 rw [zip_fst (by simp [List.length_eraseIdx, h2, hl]), zip_snd (by simp [List.length_eraseIdx, h2, hl])]
end Go.Proofs.YthjihdpleclejaaGreatDoor
namespace Go.Proofs.YthjihdpleclejaaGreatDoor
def bs1 (c : UInt8) : ByteArray := ⟨#[c]⟩
def p1b : ByteArray := ⟨#[97, 46, 49, 46, 98]⟩
def oneB (n : Int) : PVal := listV [intV 1, docV (bs1 98) (intV n)]
def knownV (n : Int) : PVal := docL [bs1 97, bs1 99] [oneB n, textV (bs1 120)]
theorem steps_1b : stepsP p1b = some [bs1 97, bs1 49, bs1 98] := by kernel_rfl
theorem got_known (n : Int) : getP (knownV n) [bs1 97, bs1 49, bs1 98] = some (intV n) := by kernel_rfl
theorem set_known (n m : Int) : atP (toSet (intV m)) true (knownV n) [bs1 97, bs1 49, bs1 98] = ⟨knownV m, false, 0⟩ := by kernel_rfl
theorem good_known2 : (knownV 2).good = 0 := by kernel_rfl
theorem good_known3 : (knownV 3).good = 0 := by kernel_rfl
end Go.Proofs.YthjihdpleclejaaGreatDoor
namespace Go.Proofs.YthjihdpleclejaaGreatDoor
theorem ask_ok {v : PVal} {p : ByteArray} {also : List PVal} (h : askP v p also = 0) : v.good = 0 ∧ (∃ a, stepsP p = some a) ∧ ∀ x ∈ also, x.good = 0 := by
 unfold askP at h
 split at h
 ·rename_i h1; exact absurd h h1
 ·rename_i h1
  split at h
  ·simp at h
  ·rename_i h2
   refine ⟨by simpa using h1, ?_, fun x hx => ?_⟩
   ·cases hs : stepsP p with
    | none => exact absurd hs h2
    | some a => exact ⟨a, rfl⟩
   ·cases hf : also.find? (fun x => x.good != 0) with
    | none => have := List.find?_eq_none.1 hf x hx; simpa using this
    | some y =>
     rw [hf] at h
     have := List.find?_some hf
     simp only [Option.elim_some] at h
     simp [h] at this
theorem ask_of {v : PVal} {p : ByteArray} {also : List PVal} {a : List ByteArray} (hg : v.good = 0) (hs : stepsP p = some a) (hx : ∀ x ∈ also, x.good = 0) : askP v p also = 0 := by
 unfold askP
 rw [hg, if_neg (by simp), if_neg (by simp [hs]), List.find?_eq_none.2 (fun x h => by simp [hx x h])]
 rfl
theorem done_ok {tf : PVal → Chg} {lays : Bool} {v : PVal} {p : ByteArray} {also : List PVal} (h : (doneP tf lays v p also).2 = 0) : v.good = 0 ∧ (∀ x ∈ also, x.good = 0) ∧ ∃ a, stepsP p = some a ∧ (atP tf lays v a).e = 0 ∧ (atP tf lays v a).v = (doneP tf lays v p also).1 ∧ (doneP tf lays v p also).1.good = 0 := by
 have ha : askP v p also = 0 := by
  by_cases h1 : askP v p also = 0
  ·exact h1
  ·unfold doneP at h; rw [if_pos h1] at h; exact absurd h h1
 obtain ⟨h1, ⟨a, h2⟩, h3⟩ := ask_ok ha
 have hd : doneP tf lays v p also = toldP (atP tf lays v a) := by unfold doneP; rw [ha, if_neg (by simp), h2]; rfl
 rw [hd] at h ⊢
 refine ⟨h1, h3, a, h2, ?_⟩
 unfold toldP at *
 by_cases h4 : (atP tf lays v a).e = 0
 ·rw [if_neg (by simp [h4])] at h ⊢
  by_cases h5 : (atP tf lays v a).v.good = 0
  ·rw [if_neg (by simp [h5])]
   exact ⟨h4, rfl, h5⟩
  ·rw [if_pos h5] at h; exact absurd h h5
 ·rw [if_pos h4] at h; exact absurd h h4
theorem done_of {tf : PVal → Chg} {lays : Bool} {v : PVal} {p : ByteArray} {also : List PVal} {a : List ByteArray} (hg : v.good = 0) (hs : stepsP p = some a) (hx : ∀ x ∈ also, x.good = 0) (he : (atP tf lays v a).e = 0) (hq : (atP tf lays v a).v.good = 0) : doneP tf lays v p also = ((atP tf lays v a).v, 0) := by
 unfold doneP toldP
 rw [ask_of hg hs hx, if_neg (by simp), hs, Option.getD_some, he, if_neg (by simp), hq, if_neg (by simp)]
theorem steps_small {p : ByteArray} {a : List ByteArray} (h : stepsP p = some a) : a.length ≤ 8 ∧ ∀ s ∈ a, s.size ≤ 24 := ⟨(stepsP_is h).2.1, fun s hs => name_size ((stepsP_is h).2.2.1 s hs)⟩
theorem got_good {v : PVal} {p : ByteArray} {a : List ByteArray} (hg : v.good = 0) (hs : stepsP p = some a) : gotP v p = getP v a := by
 unfold gotP
 rw [hg, if_neg (by simp), hs]; rfl
end Go.Proofs.YthjihdpleclejaaGreatDoor
namespace Go.Proofs.YthjihdpleclejaaGreatDoor
theorem got_some {v x : PVal} {p : ByteArray} (h : gotP v p = some x) : v.good = 0 ∧ ∃ a, stepsP p = some a ∧ getP v a = some x := by
 unfold gotP at h
 by_cases hg : v.good = 0
 ·rw [if_neg (by simp [hg])] at h
  obtain ⟨a, h1, h2⟩ := Option.bind_eq_some_iff.1 h
  exact ⟨hg, a, h1, h2⟩
 ·rw [if_pos hg] at h; cases h
theorem unset_gone {v x : PVal} {p : ByteArray} (hv : v.fits) (h : gotP v p = some x) : ∃ a, stepsP p = some a ∧ unsetP v p = ((atP toGone false v a).v, 0) ∧ (atP toGone false v a).v.good = 0 := by
 obtain ⟨hg, a, h1, h2⟩ := got_some h
 have hne : a ≠ [] := by
  have := (stepsP_is h1).1
  intro e; subst e; simp at this
 have h3 := gone_good (lays := false) hne hv hg h2
 have h4 : (atP toGone false v a).e = 0 := atP_e false a v x h2
 refine ⟨a, h1, ?_, h3⟩
 unfold unsetP
 rw [ask_of hg h1 (fun x hx => by simp at hx), if_neg (by simp), h, if_neg (by simp)]
 exact done_of hg h1 (fun x hx => by simp at hx) h4 h3
end Go.Proofs.YthjihdpleclejaaGreatDoor
