/-
  Plain paths: where steps lead in a value; what becomes of a value with a change at their end; the document's way. No condition.
  Plain paths: what lies where behind a change. No condition.
  Plain paths: what stays good; the statements' laws of paths. No condition.
  Plain paths: what is taken out leaves a good value good; two changes at one place; a changed value's mass. No condition.
  Plain paths: the document's With, field by field, is the program's change at a name's place. No condition.
  Plain: the examples' value, what is found in it and put. No condition.
  Plain: what a change at the end of a path tells, arm by arm. No condition.
  Plain: what was set is got; what was unset is not. No condition.
-/
import Derived.Test.YthjihdpleclejaaDoorMgPthP
import Derived.Test.YthjihdpleclejaaDoorMgPlain
import Derived.Test.YthjihdpleclejaaDoorMgVal12
namespace Go.Proofs.YthjihdpleclejaaDoor

/-- A field's value. -/
def findP (nm : ByteArray) : List ByteArray → List PVal → Option PVal
  | a :: r, x :: xs => if a = nm then some x else findP nm r xs
  | _, _ => none
/-- How many names ahead are less. -/
def posP (nm : ByteArray) : List ByteArray → Nat
  | [] => 0
  | a :: r => if scmp a nm < 0 then posP nm r + 1 else 0
theorem posP_le (nm : ByteArray) : ∀ fn, posP nm fn ≤ fn.length
  | [] => Nat.le_refl _
  | a :: r => by
    rw [posP]
    split
    · have := posP_le nm r; simp only [List.length_cons]; omega
    · omega
theorem posP_is (nm : ByteArray) : ∀ (fn : List ByteArray) (i : Nat), i ≤ fn.length → (∀ (t : Nat) a, t < i → fn[t]? = some a → scmp a nm < 0) → (∀ a, fn[i]? = some a → ¬ scmp a nm < 0) → posP nm fn = i
  | [], i, h, _, _ => by simp only [List.length_nil] at h; rw [posP]; omega
  | a :: r, 0, _, _, h2 => by rw [posP, if_neg (h2 a rfl)]
  | a :: r, i + 1, h, h1, h2 => by
    rw [posP, if_pos (h1 0 a (by omega) rfl), posP_is nm r i (by simpa using h) (fun t b ht hb => h1 (t + 1) b (by omega) (by simpa using hb)) (fun b hb => h2 b (by simpa using hb))]
theorem posP_less (nm : ByteArray) : ∀ (fn : List ByteArray) (t : Nat) a, t < posP nm fn → fn[t]? = some a → scmp a nm < 0
  | [], t, a, h, _ => by rw [posP] at h; omega
  | b :: r, t, a, h, ha => by
    rw [posP] at h
    split at h
    · rename_i hb
      cases t with
      | zero => obtain rfl : b = a := by simpa using ha
                exact hb
      | succ t => exact posP_less nm r t a (by omega) (by simpa using ha)
    · omega
theorem posP_not (nm : ByteArray) : ∀ (fn : List ByteArray) a, fn[posP nm fn]? = some a → ¬ scmp a nm < 0
  | [], a, h => by simp at h
  | b :: r, a, h => by
    rw [posP] at h
    split at h
    · exact posP_not nm r a (by simpa using h)
    · rename_i hb
      obtain rfl : b = a := by simpa using h
      exact hb

/-- Names that rise, by their order. -/
def Up (fn : List ByteArray) : Prop := fn.Pairwise (fun a b => scmp a b < 0)
theorem up_of : ∀ {fn : List ByteArray}, rising fn = true → Up fn
  | [], _ => List.Pairwise.nil
  | [a], _ => by simp [Up]
  | a :: b :: r, h => by
    rw [rising, Bool.and_eq_true] at h
    have ih := up_of h.2
    have hab : scmp a b < 0 := by rw [scmp_less, if_pos h.1]; omega
    refine List.Pairwise.cons (fun x hx => ?_) ih
    rcases List.mem_cons.1 hx with rfl | hx
    · exact hab
    · have hbx := (List.pairwise_cons.1 ih).1 x hx
      exact (scmp_trans (Int.le_of_lt hab) (Int.le_of_lt hbx)).2.1 hab
theorem rising_of : ∀ {fn : List ByteArray}, Up fn → rising fn = true
  | [], _ => rfl
  | [a], _ => rfl
  | a :: b :: r, h => by
    have h' := List.pairwise_cons.1 h
    rw [rising, rising_of h'.2, Bool.and_true]
    have hab := h'.1 b (by simp)
    rw [scmp_less] at hab
    split at hab
    · assumption
    · split at hab <;> omega
theorem scmp_self (a : ByteArray) : scmp a a = 0 := scmp_zero.2 rfl

/-- Among names that rise a name is at its place or nowhere. -/
theorem find_pos (nm : ByteArray) : ∀ (fn : List ByteArray) (fv : List PVal), Up fn → findP nm fn fv = if fn[posP nm fn]? = some nm then fv[posP nm fn]? else none
  | [], fv, _ => by simp [findP]
  | a :: r, [], h => by simp [findP]
  | a :: r, x :: xs, h => by
    have h' := List.pairwise_cons.1 h
    rw [findP, posP]
    by_cases e : a = nm
    · subst e
      have hs : ¬ scmp a a < 0 := by rw [scmp_self]; omega
      rw [if_pos rfl, if_neg hs]
      simp
    · rw [if_neg e]
      by_cases hl : scmp a nm < 0
      · rw [if_pos hl, find_pos nm r xs h'.2]
        simp
      · rw [if_neg hl, find_pos nm r xs h'.2]
        have h2 : ¬ r[posP nm r]? = some nm := fun hr => by
          have := h'.1 nm (List.mem_of_getElem? hr)
          omega
        rw [if_neg h2]
        simp [e]

/-- The value to which a step leads. -/
def leads (v : PVal) (s : ByteArray) : Option PVal :=
  match place s with
  | some n => if v.k = 5 then v.l[n]? else none
  | none => if v.k = 6 then findP s v.fn v.fv else none
def getP : PVal → List ByteArray → Option PVal
  | v, [] => some v
  | v, s :: r => match leads v s with
    | some x => getP x r
    | none => none

def zeroP : PVal := .mk 0 0 ByteArray.empty [] [] []
def docE : PVal := .mk 6 0 ByteArray.empty [] [] []
def docL (fn : List ByteArray) (fv : List PVal) : PVal := .mk 6 0 ByteArray.empty [] fn fv
def insA {α : Type} (l : List α) (i : Nat) (x : α) : List α := l.take i ++ x :: l.drop i

/-- What a change tells: a value; taken out?; the error. -/
structure Chg where
  v : PVal
  gone : Bool
  e : Int
/-- A value with a change at the end of steps: a List's part, a Doc's field. -/
def atL (v : PVal) (n : Nat) (q : Chg) : Chg := ⟨listV (if q.gone = true then v.l.eraseIdx n else v.l.set n q.v), false, q.e⟩
def atF (v : PVal) (s : ByteArray) (q : Chg) : Chg :=
  let i := posP s v.fn
  if v.fn[i]? = some s then ⟨docL (if q.gone = true then v.fn.eraseIdx i else v.fn) (if q.gone = true then v.fv.eraseIdx i else v.fv.set i q.v), false, q.e⟩
  else ⟨docL (if q.gone = true then v.fn else insA v.fn i s) (if q.gone = true then v.fv else insA v.fv i q.v), false, q.e⟩
def atP (tf : PVal → Chg) (lays : Bool) : PVal → List ByteArray → Chg
  | v, [] => tf v
  | v, s :: r =>
    match place s with
    | some n => if v.k ≠ 5 then ⟨zeroP, false, 7⟩ else match v.l[n]? with
      | none => ⟨zeroP, false, 8⟩
      | some y => atL v n (atP tf lays y r)
    | none => if v.k ≠ 6 then ⟨zeroP, false, 7⟩ else
      match findP s v.fn v.fv with
      | some y => atF v s (atP tf lays y r)
      | none => if lays = false then ⟨zeroP, false, 8⟩ else atF v s (atP tf lays docE r)

/-- What becomes of a value. -/
def toldP (q : Chg) : PVal × Int := if q.e ≠ 0 then (zeroP, q.e) else if q.v.good ≠ 0 then (zeroP, q.v.good) else (q.v, 0)
/-- The errors of what is handed in. -/
def askP (v : PVal) (p : ByteArray) (also : List PVal) : Int :=
  if v.good ≠ 0 then v.good else if stepsP p = none then 14 else (also.find? (fun x => x.good != 0)).elim 0 PVal.good
def doneP (tf : PVal → Chg) (lays : Bool) (v : PVal) (p : ByteArray) (also : List PVal) : PVal × Int :=
  if askP v p also ≠ 0 then (zeroP, askP v p also) else toldP (atP tf lays v ((stepsP p).getD []))
def toSet (x : PVal) (_ : PVal) : Chg := ⟨x, false, 0⟩
def toGone (_ : PVal) : Chg := ⟨zeroP, true, 0⟩
def toPush (x y : PVal) : Chg := if y.k ≠ 5 then ⟨zeroP, false, 7⟩ else ⟨listV (y.l ++ [x]), false, 0⟩
def sumP (a n : Int) : Int := IntKind.i64.wrap (a + n)
def toAdd (n : Int) (y : PVal) : Chg := if y.k ≠ 3 then ⟨zeroP, false, 7⟩ else if y.n + n < -9223372036854775808 ∨ 9223372036854775807 < y.n + n then ⟨zeroP, false, 12⟩ else ⟨intV (y.n + n), false, 0⟩
def gotP (v : PVal) (p : ByteArray) : Option PVal := if v.good ≠ 0 then none else (stepsP p).bind (getP v)
def setP (v : PVal) (p : ByteArray) (x : PVal) : PVal × Int := doneP (toSet x) true v p [x]
def unsetP (v : PVal) (p : ByteArray) : PVal × Int :=
  if askP v p [] ≠ 0 then (zeroP, askP v p []) else if gotP v p = none then (v, 0) else doneP toGone false v p []
def thereP (tf : PVal → Chg) (v : PVal) (p : ByteArray) (also : List PVal) : PVal × Int :=
  let r := doneP tf false v p also
  if r.2 = 0 then r else if askP v p also ≠ 0 then (zeroP, r.2) else if gotP v p = none then (zeroP, 8) else (zeroP, r.2)
def pushP (v : PVal) (p : ByteArray) (x : PVal) : PVal × Int := thereP (toPush x) v p [x]
def addP (v : PVal) (p : ByteArray) (n : Int) : PVal × Int := thereP (toAdd n) v p []
end Go.Proofs.YthjihdpleclejaaDoor

namespace Go.Proofs.YthjihdpleclejaaDoor

theorem scmp_ne {a b : ByteArray} (h : scmp a b < 0) : a ≠ b := fun e => by subst e; rw [scmp_self] at h; omega

theorem find_set {s : ByteArray} {y : PVal} (t : ByteArray) : ∀ (fn : List ByteArray) (fv : List PVal) (i : Nat), Up fn → fn.length = fv.length → fn[i]? = some s → findP t fn (fv.set i y) = if t = s then some y else findP t fn fv
  | [], _, _, _, _, h => by simp at h
  | a :: r, [], _, _, h, _ => by simp at h
  | a :: r, x :: xs, 0, _, _, h => by
    obtain rfl : a = s := by simpa using h
    by_cases e : t = a
    · subst e; simp [findP]
    · simp [findP, e, Ne.symm e]
  | a :: r, x :: xs, i + 1, hu, hl, h => by
    have hu' := List.pairwise_cons.1 hu
    have hr : r[i]? = some s := by simpa using h
    have ha := scmp_ne (hu'.1 s (List.mem_of_getElem? hr))
    have ih := find_set t r xs i hu'.2 (by simpa using hl) hr (y := y)
    rw [List.set_cons_succ, findP, findP, ih]
    by_cases e : t = s
    · subst e; simp [ha]
    · simp [e]
theorem find_ins {s : ByteArray} {y : PVal} (t : ByteArray) : ∀ (fn : List ByteArray) (fv : List PVal) (i : Nat), fn.length = fv.length → i ≤ fn.length → (∀ (j : Nat) a, j < i → fn[j]? = some a → scmp a s < 0) → findP t (insA fn i s) (insA fv i y) = if t = s then some y else findP t fn fv
  | fn, fv, 0, _, _, _ => by
    simp only [insA, List.take_zero, List.drop_zero, List.nil_append, findP]
    by_cases e : t = s
    · subst e; simp
    · simp [e, Ne.symm e]
  | [], _, i + 1, _, h, _ => by simp at h
  | a :: r, [], _, h, _, _ => by simp at h
  | a :: r, x :: xs, i + 1, hl, hi, h => by
    have ih := find_ins t r xs i (by simpa using hl) (by simpa using hi) (fun j b hj hb => h (j + 1) b (by omega) (by simpa using hb)) (y := y)
    have ha := scmp_ne (h 0 a (by omega) rfl)
    simp only [insA, List.take_succ_cons, List.drop_succ_cons, List.cons_append, findP] at ih ⊢
    rw [ih]
    by_cases e : t = s
    · subst e; simp [ha]
    · simp [e]
theorem find_del {s : ByteArray} (t : ByteArray) : ∀ (fn : List ByteArray) (fv : List PVal) (i : Nat), Up fn → fn.length = fv.length → fn[i]? = some s → findP t (fn.eraseIdx i) (fv.eraseIdx i) = if t = s then none else findP t fn fv
  | [], _, _, _, _, h => by simp at h
  | a :: r, [], _, _, h, _ => by simp at h
  | a :: r, x :: xs, 0, hu, _, h => by
    obtain rfl : a = s := by simpa using h
    have hu' := List.pairwise_cons.1 hu
    simp only [List.eraseIdx_cons_zero, findP]
    by_cases e : t = a
    · subst e
      rw [if_pos rfl, find_pos t r xs hu'.2, if_neg (fun hh => by have := hu'.1 t (List.mem_of_getElem? hh); rw [scmp_self] at this; omega)]
    · simp [e, Ne.symm e]
  | a :: r, x :: xs, i + 1, hu, hl, h => by
    have hu' := List.pairwise_cons.1 hu
    have hr : r[i]? = some s := by simpa using h
    have ha := scmp_ne (hu'.1 s (List.mem_of_getElem? hr))
    have ih := find_del t r xs i hu'.2 (by simpa using hl) hr
    simp only [List.eraseIdx_cons_succ, findP]
    rw [ih]
    by_cases e : t = s
    · subst e; simp [ha]
    · simp [e]
theorem find_none {s : ByteArray} {fn : List ByteArray} {fv : List PVal} (hu : Up fn) (hl : fn.length = fv.length) (h : findP s fn fv = none) : fn[posP s fn]? ≠ some s := fun e => by
  rw [find_pos s fn fv hu, if_pos e] at h
  have := (List.getElem?_eq_some_iff.1 e).1
  rw [List.getElem?_eq_none_iff] at h
  omega
theorem find_some {s : ByteArray} {fn : List ByteArray} {fv : List PVal} {y : PVal} (hu : Up fn) (h : findP s fn fv = some y) : fn[posP s fn]? = some s ∧ fv[posP s fn]? = some y := by
  rw [find_pos s fn fv hu] at h
  split at h
  · rename_i e; exact ⟨e, h⟩
  · cases h
theorem up_ins {s : ByteArray} {fn : List ByteArray} (hu : Up fn) (h : fn[posP s fn]? ≠ some s) : Up (insA fn (posP s fn) s) := by
  have h1 : ∀ a ∈ fn.take (posP s fn), scmp a s < 0 := fun a ha => by
    obtain ⟨j, hj⟩ := List.getElem?_of_mem ha
    rw [List.getElem?_take] at hj
    split at hj
    · exact posP_less s fn j a (by assumption) hj
    · cases hj
  have h2 : ∀ b ∈ fn.drop (posP s fn), scmp s b < 0 := by
    intro b hb
    cases hd : fn.drop (posP s fn) with
    | nil => rw [hd] at hb; cases hb
    | cons c r =>
      have hc : fn[posP s fn]? = some c := by
        have := congrArg (fun l => l[0]?) hd
        simpa using this
      have hsc : scmp s c < 0 := by
        have h3 := posP_not s fn c hc
        have h4 : scmp c s ≠ 0 := fun e => h (by rw [hc, scmp_zero.1 e])
        have := scmp_anti c s
        omega
      rw [hd] at hb
      rcases List.mem_cons.1 hb with rfl | hb
      · exact hsc
      · have hdu : Up (fn.drop (posP s fn)) := List.Pairwise.sublist (List.drop_sublist _ _) hu
        rw [hd] at hdu
        have := (List.pairwise_cons.1 hdu).1 b hb
        exact (scmp_trans (Int.le_of_lt hsc) (Int.le_of_lt this)).2.1 hsc
  unfold Up insA
  rw [List.pairwise_append]
  refine ⟨List.Pairwise.sublist (List.take_sublist _ _) hu, List.Pairwise.cons h2 (List.Pairwise.sublist (List.drop_sublist _ _) hu), fun a ha b hb => ?_⟩
  rcases List.mem_cons.1 hb with rfl | hb
  · exact h1 a ha
  · have ha' := h1 a ha
    have hb' := h2 b hb
    exact (scmp_trans (Int.le_of_lt ha') (Int.le_of_lt hb')).2.1 ha'
theorem up_del {fn : List ByteArray} (hu : Up fn) (i : Nat) : Up (fn.eraseIdx i) := List.Pairwise.sublist (List.eraseIdx_sublist _ _) hu

-- two places are the same if their steps are
theorem placeB_inj : ∀ {a b : List UInt8} {n : Nat}, placeB a = some n → placeB b = some n → a = b := by
  have h1 : ∀ {l : List UInt8} {n : Nat}, placeB l = some n → (∃ a, l = [a] ∧ digB a = true ∧ n = a.toNat - 48) ∨ (∃ a b, l = [a, b] ∧ digB a = true ∧ digB b = true ∧ a.toNat ≠ 48 ∧ n = 10 * (a.toNat - 48) + (b.toNat - 48)) := by
    intro l n h
    unfold placeB at h
    split at h
    · split at h
      · rename_i a ha
        injection h with h
        exact .inl ⟨a, rfl, ha, h.symm⟩
      · cases h
    · split at h
      · rename_i a b hab
        injection h with h
        exact .inr ⟨a, b, rfl, hab.1, hab.2.1, hab.2.2, h.symm⟩
      · cases h
    · cases h
  intro a b n ha hb
  rcases h1 ha with ⟨x, rfl, hx, e⟩ | ⟨x, y, rfl, hx, hy, hxy, e⟩ <;> rcases h1 hb with ⟨u, rfl, hu, e'⟩ | ⟨u, v, rfl, hu, hv, huv, e'⟩
  · have := digB_le hx; have := digB_le hu
    rw [UInt8.toNat_inj.1 (show x.toNat = u.toNat by omega)]
  · have := digB_le hx; have := digB_le hu; have := digB_le hv; omega
  · have := digB_le hx; have := digB_le hy; have := digB_le hu; omega
  · have := digB_le hx; have := digB_le hy; have := digB_le hu; have := digB_le hv
    rw [UInt8.toNat_inj.1 (show x.toNat = u.toNat by omega), UInt8.toNat_inj.1 (show y.toNat = v.toNat by omega)]
theorem place_inj {a b : ByteArray} {n : Nat} (ha : place a = some n) (hb : place b = some n) : a = b := by
  rw [← bar_of a, ← bar_of b, placeB_inj ha hb]

theorem listV_k (l : List PVal) : (listV l).k = 5 := rfl
theorem listV_l (l : List PVal) : (listV l).l = l := rfl
theorem docL_k (fn : List ByteArray) (fv : List PVal) : (docL fn fv).k = 6 := rfl
theorem docL_fn (fn : List ByteArray) (fv : List PVal) : (docL fn fv).fn = fn := rfl
theorem docL_fv (fn : List ByteArray) (fv : List PVal) : (docL fn fv).fv = fv := rfl
theorem atL_set (v : PVal) (n : Nat) {q : Chg} (hg : q.gone = false) : (atL v n q).v = listV (v.l.set n q.v) := by unfold atL; simp [hg]
/-- Behind a change of a List's part. -/
theorem leads_atL {v : PVal} {s t : ByteArray} {n : Nat} {q : Chg} {y : PVal} (hs : place s = some n) (hy : v.l[n]? = some y) (hk : v.k = 5) (hg : q.gone = false) : leads (atL v n q).v t = if t = s then some q.v else leads v t := by
  unfold leads
  rw [atL_set v n hg, listV_k, listV_l]
  cases ht : place t with
  | none =>
    have hne : t ≠ s := fun e => by rw [e, hs] at ht; cases ht
    simp [hk, hne]
  | some m =>
    have hlt := (List.getElem?_eq_some_iff.1 hy).1
    by_cases e : t = s
    · subst e
      obtain rfl : m = n := by rw [hs] at ht; injection ht with ht; exact ht.symm
      simp [hlt]
    · have hmn : n ≠ m := fun h => e (place_inj ht (h ▸ hs))
      simp [hk, e, List.getElem?_set_ne hmn]
/-- Behind a change of a Doc's field. -/
theorem leads_atF {v : PVal} {s t : ByteArray} {q : Chg} (hs : place s = none) (hk : v.k = 6) (hu : Up v.fn) (hl : v.fn.length = v.fv.length) : leads (atF v s q).v t = if t = s then (if q.gone = true then none else some q.v) else leads v t := by
  unfold leads
  cases ht : place t with
  | some m =>
    have hne : t ≠ s := fun e => by rw [e, hs] at ht; cases ht
    have hk' : (atF v s q).v.k = 6 := by unfold atF; dsimp only; by_cases h : v.fn[posP s v.fn]? = some s <;> simp only [h, if_true, if_false] <;> exact docL_k _ _
    simp [hk', hk, hne]
  | none =>
    simp only [hk, if_true]
    unfold atF
    dsimp only
    by_cases h : v.fn[posP s v.fn]? = some s
    · simp only [h, if_true, docL_k, docL_fn, docL_fv]
      cases q.gone with
      | true => simp only [if_true]; exact find_del t v.fn v.fv _ hu hl h
      | false => simp only [if_false, Bool.false_eq_true]; exact find_set t v.fn v.fv _ hu hl h
    · simp only [h, if_false, docL_k, docL_fn, docL_fv, if_true]
      cases q.gone with
      | true =>
        simp only [if_true]
        by_cases e : t = s
        · subst e; rw [if_pos rfl, find_pos t v.fn v.fv hu, if_neg h]
        · rw [if_neg e]
      | false => simp only [if_false, Bool.false_eq_true]; exact find_ins t v.fn v.fv _ hl (posP_le s v.fn) (fun j a hj ha => posP_less s v.fn j a hj ha)

/-- As many names as values, and names that rise. -/
def Sound (v : PVal) : Prop := v.fits ∧ v.all formedB = true
theorem all_at {p : PVal → Bool} {v : PVal} (h : v.all p = true) : p v = true := by
  rw [all_parts, Bool.and_eq_true] at h; exact h.1
theorem all_part {p : PVal → Bool} {v x : PVal} (h : v.all p = true) (hx : x ∈ v.parts) : x.all p = true := by
  rw [all_parts, Bool.and_eq_true] at h; exact List.all_eq_true.1 h.2 x hx
theorem find_mem {s : ByteArray} : ∀ {fn : List ByteArray} {fv : List PVal} {y : PVal}, findP s fn fv = some y → y ∈ fv
  | a :: r, x :: xs, y, h => by
    rw [findP] at h
    split at h
    · injection h with h; simp [h]
    · exact List.mem_cons_of_mem _ (find_mem h)
  | [], _, _, h => by simp [findP] at h
  | _ :: _, [], _, h => by simp [findP] at h
theorem leads_part {v x : PVal} {s : ByteArray} (h : leads v s = some x) : x ∈ v.parts := by
  unfold leads at h
  obtain ⟨k, n, t, l, fn, fv⟩ := v
  split at h
  · split at h
    · rename_i hk
      simp only [PVal.k] at hk
      simp only [PVal.parts, hk, if_true]
      exact List.mem_of_getElem? h
    · cases h
  · split at h
    · rename_i hk
      simp only [PVal.k] at hk
      simp only [PVal.parts, hk]
      exact find_mem h
    · cases h
theorem fits_part {v x : PVal} (h : v.fits) (hx : x ∈ v.parts) : x.fits := by
  obtain ⟨k, n, t, l, fn, fv⟩ := v
  simp only [PVal.fits, fitsL_iff] at h
  simp only [PVal.parts] at hx
  split at hx
  · exact h.2.2.2.2.2.2.2.1 x hx
  · split at hx
    · exact h.2.2.2.2.2.2.2.2 x hx
    · cases hx
theorem Sound.part {v x : PVal} (h : Sound v) (hx : x ∈ v.parts) : Sound x := ⟨fits_part h.1 hx, all_part h.2 hx⟩
theorem Sound.up {v : PVal} (h : Sound v) : Up v.fn := by
  have h1 := all_at h.2
  obtain ⟨k, n, t, l, fn, fv⟩ := v
  simp only [formedB, Bool.and_eq_true] at h1
  exact up_of h1.2
theorem Sound.len {v : PVal} (h : Sound v) : v.fn.length = v.fv.length := by
  obtain ⟨k, n, t, l, fn, fv⟩ := v
  have h1 := h.1
  simp only [PVal.fits] at h1
  exact h1.2.2.2.2.1
theorem sound_docE : Sound docE := by
  refine ⟨?_, by decide +kernel⟩
  simp only [docE, PVal.fits, fitsL, I64, Lim]
  simp
theorem leads_place {v : PVal} {s : ByteArray} {n : Nat} (h : place s = some n) : leads v s = if v.k = 5 then v.l[n]? else none := by unfold leads; rw [h]
theorem leads_name {v : PVal} {s : ByteArray} (h : place s = none) : leads v s = if v.k = 6 then findP s v.fn v.fv else none := by unfold leads; rw [h]

theorem atP_nil (tf : PVal → Chg) (lays : Bool) (v : PVal) : atP tf lays v [] = tf v := by rw [atP]
theorem atP_cons (tf : PVal → Chg) (lays : Bool) (v : PVal) (s : ByteArray) (r : List ByteArray) : atP tf lays v (s :: r) =
    match place s with
    | some n => if v.k ≠ 5 then ⟨zeroP, false, 7⟩ else match v.l[n]? with
      | none => ⟨zeroP, false, 8⟩
      | some y => atL v n (atP tf lays y r)
    | none => if v.k ≠ 6 then ⟨zeroP, false, 7⟩ else
      match findP s v.fn v.fv with
      | some y => atF v s (atP tf lays y r)
      | none => if lays = false then ⟨zeroP, false, 8⟩ else atF v s (atP tf lays docE r) := by
  rw [atP]
  all_goals rfl
theorem atP_gone {tf : PVal → Chg} {lays : Bool} (h : ∀ y, (tf y).gone = false) : ∀ (l : List ByteArray) (v : PVal), (atP tf lays v l).gone = false
  | [], v => by rw [atP_nil]; exact h v
  | s :: r, v => by
    rw [atP_cons]
    split
    · split
      · rfl
      · split <;> rfl
    · split
      · rfl
      · split
        · unfold atF; simp only; split <;> rfl
        · split
          · rfl
          · unfold atF; simp only; split <;> rfl
theorem atP_gone' {tf : PVal → Chg} {lays : Bool} (v : PVal) (s : ByteArray) (r : List ByteArray) : (atP tf lays v (s :: r)).gone = false := by
  rw [atP_cons]
  split
  · split
    · rfl
    · split <;> rfl
  · split
    · rfl
    · split
      · unfold atF; simp only; split <;> rfl
      · split
        · rfl
        · unfold atF; simp only; split <;> rfl
theorem atF_e (v : PVal) (s : ByteArray) (q : Chg) : (atF v s q).e = q.e := by unfold atF; simp only; split <;> rfl
/-- One step of a change that succeeds. -/
theorem atP_step {tf : PVal → Chg} {lays : Bool} {v : PVal} {s : ByteArray} {r : List ByteArray} (hv : Sound v) (he : (atP tf lays v (s :: r)).e = 0) :
    ∃ y, (leads v s = some y ∨ (leads v s = none ∧ y = docE ∧ lays = true ∧ place s = none)) ∧ Sound y ∧ (atP tf lays y r).e = 0 ∧
      ∀ t, leads (atP tf lays v (s :: r)).v t = if t = s then (if (atP tf lays y r).gone = true then leads (atP tf lays v (s :: r)).v s else some (atP tf lays y r).v) else if (atP tf lays y r).gone = true then leads (atP tf lays v (s :: r)).v t else leads v t := by
  rw [atP_cons] at he ⊢
  cases hp : place s with
  | some n =>
    simp only [hp] at he ⊢
    by_cases hk : v.k = 5
    · rw [if_neg (by simp [hk])] at he ⊢
      cases hy : v.l[n]? with
      | none => simp [hy] at he
      | some y =>
        simp only [hy] at he ⊢
        have hl : leads v s = some y := by rw [leads_place hp, if_pos hk, hy]
        refine ⟨y, .inl hl, hv.part (leads_part hl), he, fun t => ?_⟩
        cases hg : (atP tf lays y r).gone with
        | true => simp only [if_true]; split
                  · rename_i e; rw [e]
                  · rfl
        | false => rw [leads_atL hp hy hk hg]; simp
    · rw [if_pos hk] at he; simp at he
  | none =>
    simp only [hp] at he ⊢
    by_cases hk : v.k = 6
    · rw [if_neg (by simp [hk])] at he ⊢
      cases hy : findP s v.fn v.fv with
      | none =>
        simp only [hy] at he ⊢
        cases lays with
        | false => simp at he
        | true =>
          rw [if_neg (by simp), atF_e] at he
          rw [if_neg (by simp)]
          refine ⟨docE, .inr ⟨by rw [leads_name hp, if_pos hk, hy], by trivial, by trivial, by trivial⟩, sound_docE, he, fun t => ?_⟩
          cases hg : (atP tf true docE r).gone with
          | true => simp only [if_true]; split
                    · rename_i e; rw [e]
                    · rfl
          | false => rw [leads_atF hp hk hv.up hv.len]; simp [hg]
      | some y =>
        simp only [hy] at he ⊢
        rw [atF_e] at he
        have hl : leads v s = some y := by rw [leads_name hp, if_pos hk, hy]
        refine ⟨y, .inl hl, hv.part (leads_part hl), he, fun t => ?_⟩
        cases hg : (atP tf lays y r).gone with
        | true => simp only [if_true]; split
                  · rename_i e; rw [e]
                  · rfl
        | false => rw [leads_atF hp hk hv.up hv.len]; simp [hg]
    · rw [if_pos hk] at he; simp at he
end Go.Proofs.YthjihdpleclejaaDoor

namespace Go.Proofs.YthjihdpleclejaaDoor

theorem good_iff (v : PVal) : v.good = 0 ↔ v.all formedB = true ∧ v.all spelledB = true ∧ v.all fewB = true ∧ v.depth ≤ 8 ∧ v.size ≤ 2048 := by
  unfold PVal.good
  constructor
  · intro h
    split at h
    · simp at h
    split at h
    · simp at h
    split at h
    · simp at h
    split at h
    · simp at h
    split at h
    · simp at h
    rename_i h1 h2 h3 h4 h5
    exact ⟨by simpa using h1, by simpa using h2, by simpa using h3, by omega, by omega⟩
  · rintro ⟨h1, h2, h3, h4, h5⟩
    rw [if_neg (by simp [h1]), if_neg (by simp [h2]), if_neg (by simp [h3]), if_neg (by omega), if_neg (by omega)]
theorem depthL_mem {l : List PVal} {x : PVal} (h : x ∈ l) : x.depth ≤ depthL l := by
  induction l with
  | nil => cases h
  | cons y r ih =>
    rw [depthL]
    rcases List.mem_cons.1 h with rfl | h
    · omega
    · have := ih h; omega
theorem sizeL_mem {l : List PVal} {x : PVal} (h : x ∈ l) : x.size ≤ sizeL l := by
  induction l with
  | nil => cases h
  | cons y r ih =>
    rw [sizeL]
    rcases List.mem_cons.1 h with rfl | h
    · omega
    · have := ih h; omega
theorem part_kind {v x : PVal} (h : x ∈ v.parts) : v.k = 5 ∨ v.k = 6 := by
  obtain ⟨k, n, s, l, fn, fv⟩ := v
  simp only [PVal.parts] at h
  simp only [PVal.k]
  split at h
  · exact .inl (by assumption)
  · split at h
    · exact .inr (by assumption)
    · cases h
theorem size_part {v x : PVal} (h : x ∈ v.parts) : x.size ≤ v.size := by
  obtain ⟨k, n, s, l, fn, fv⟩ := v
  have hk := part_kind h
  simp only [PVal.k] at hk
  simp only [PVal.parts] at h
  rw [PVal.size]
  rcases hk with rfl | rfl
  · have := sizeL_mem (by simpa using h); simp; omega
  · have := sizeL_mem (by simpa using h); simp; omega
theorem good_part {v x : PVal} (h : v.good = 0) (hx : x ∈ v.parts) : x.good = 0 := by
  rw [good_iff] at h ⊢
  obtain ⟨h1, h2, h3, h4, h5⟩ := h
  have hd := depth_some (part_kind hx)
  have := depthL_mem hx
  have := size_part hx
  exact ⟨all_part h1 hx, all_part h2 hx, all_part h3 hx, by omega, by omega⟩
theorem good_leads {v x : PVal} {s : ByteArray} (h : v.good = 0) (hx : leads v s = some x) : x.good = 0 := good_part h (leads_part hx)
theorem good_getP : ∀ (l : List ByteArray) (v x : PVal), v.good = 0 → getP v l = some x → x.good = 0
  | [], v, x, h, hx => by injection hx with hx; exact hx ▸ h
  | s :: r, v, x, h, hx => by
    rw [getP] at hx
    split at hx
    · rename_i y hy; exact good_getP r y x (good_leads h hy) hx
    · cases hx
theorem getP_cons {v : PVal} {s : ByteArray} {r : List ByteArray} {x : PVal} (h : getP v (s :: r) = some x) : ∃ y, leads v s = some y ∧ getP y r = some x := by
  rw [getP] at h
  split at h
  · rename_i y hy; exact ⟨y, hy, h⟩
  · cases h
theorem sound_getP : ∀ (l : List ByteArray) (v x : PVal), Sound v → getP v l = some x → Sound x
  | [], v, x, h, hx => by injection hx with hx; exact hx ▸ h
  | s :: r, v, x, h, hx => by
    obtain ⟨y, hy, hx⟩ := getP_cons hx
    exact sound_getP r y x (h.part (leads_part hy)) hx
theorem mass_getP : ∀ (l : List ByteArray) (v x : PVal), getP v l = some x → x.mass ≤ v.mass
  | [], v, x, hx => by injection hx with hx; exact hx ▸ Nat.le_refl _
  | s :: r, v, x, hx => by
    obtain ⟨y, hy, hx⟩ := getP_cons hx
    exact Nat.le_trans (mass_getP r y x hx) (parts_mass v y (leads_part hy))

/-- What lies at a path of other steps stays. -/
theorem apart_law {tf : PVal → Chg} (hto : ∀ y, (tf y).gone = false) (lays : Bool) : ∀ (a : List ByteArray) (v : PVal) (b : List ByteArray), Sound v → (atP tf lays v a).e = 0 → (∃ (i : Nat) (x y : ByteArray), a[i]? = some x ∧ b[i]? = some y ∧ x ≠ y) → getP (atP tf lays v a).v b = getP v b
  | [], v, b, _, _, h => by obtain ⟨i, x, y, h1, _⟩ := h; simp at h1
  | s :: r, v, [], _, _, h => by obtain ⟨i, x, y, _, h1, _⟩ := h; simp at h1
  | s :: r, v, t :: u, hv, he, h => by
    obtain ⟨y, hy, hsy, hye, hl⟩ := atP_step hv he
    have hg := atP_gone (lays := lays) hto r y
    have hl := hl t
    rw [hg] at hl
    simp only [Bool.false_eq_true, if_false] at hl
    by_cases e : t = s
    · subst e
      rw [if_pos rfl] at hl
      have h' : ∃ (i : Nat) (x y : ByteArray), r[i]? = some x ∧ u[i]? = some y ∧ x ≠ y := by
        obtain ⟨i, x, z, h1, h2, h3⟩ := h
        cases i with
        | zero => simp only [List.getElem?_cons_zero, Option.some.injEq] at h1 h2; exact absurd (h1.symm.trans h2) h3
        | succ j => exact ⟨j, x, z, by simpa using h1, by simpa using h2, h3⟩
      have ih := apart_law hto lays r y u hsy hye h'
      rw [getP, hl]
      simp only
      rw [ih, getP]
      rcases hy with hy | ⟨hy, rfl, _⟩
      · rw [hy]
      · rw [hy]
        obtain ⟨j, x, z, _, h2, _⟩ := h'
        match u, h2 with
        | c :: u', _ =>
          rw [getP]
          have : leads docE c = none := by
            unfold leads
            cases place c with
            | none => simp [docE, PVal.k, PVal.fn, PVal.fv, findP]
            | some m => simp [docE, PVal.k]
          rw [this]
    · rw [if_neg e] at hl
      rw [getP, hl, getP]
/-- What was set is got. -/
theorem set_got {tf : PVal → Chg} (hto : ∀ y, (tf y).gone = false) (lays : Bool) : ∀ (a : List ByteArray) (v : PVal), Sound v → (atP tf lays v a).e = 0 → ∃ y, getP (atP tf lays v a).v a = some (tf y).v ∧ (tf y).e = 0 ∧ (getP v a = some y ∨ getP v a = none ∧ lays = true)
  | [], v, _, he => ⟨v, by rw [atP_nil]; rfl, by rwa [atP_nil] at he, .inl rfl⟩
  | s :: r, v, hv, he => by
    obtain ⟨y, hy, hsy, hye, hl⟩ := atP_step hv he
    have hg := atP_gone (lays := lays) hto r y
    have hl := hl s
    rw [hg] at hl
    simp only [Bool.false_eq_true, if_false, if_true] at hl
    obtain ⟨z, h1, h2, h3⟩ := set_got hto lays r y hsy hye
    refine ⟨z, by rw [getP, hl]; exact h1, h2, ?_⟩
    rcases hy with hy | ⟨hy, _, hly, _⟩
    · rcases h3 with h3 | ⟨h3, h4⟩
      · exact .inl (by rw [getP, hy]; exact h3)
      · exact .inr ⟨by rw [getP, hy]; exact h3, h4⟩
    · exact .inr ⟨by rw [getP, hy], hly⟩
/-- Where a path leads, the error is the change's own. -/
theorem atP_e {tf : PVal → Chg} (lays : Bool) : ∀ (a : List ByteArray) (v x : PVal), getP v a = some x → (atP tf lays v a).e = (tf x).e
  | [], v, x, h => by injection h with h; rw [atP_nil, h]
  | s :: r, v, x, h => by
    obtain ⟨y, hy, hx⟩ := getP_cons h
    have ih := atP_e (tf := tf) lays r y x hx
    rw [atP_cons]
    cases hp : place s with
    | some n =>
      rw [leads_place hp] at hy
      split at hy
      · rename_i hk
        simp only [hk, hy]
        exact ih
      · cases hy
    | none =>
      rw [leads_name hp] at hy
      split at hy
      · rename_i hk
        simp only [hk, hy]
        simp only [ne_eq, not_true_eq_false, if_false, atF_e]
        exact ih
      · cases hy
/-- Where a path leads nowhere and nothing is laid, there is an error. -/
theorem atP_lost {tf : PVal → Chg} : ∀ (a : List ByteArray) (v : PVal), getP v a = none → (atP tf false v a).e ≠ 0
  | [], v, h => by cases h
  | s :: r, v, h => by
    rw [atP_cons]
    rw [getP] at h
    cases hp : place s with
    | some n =>
      rw [leads_place hp] at h
      by_cases hk : v.k = 5
      · rw [if_pos hk] at h
        simp only [hk, ne_eq, not_true_eq_false, if_false]
        cases hy : v.l[n]? with
        | none => simp
        | some y =>
          rw [hy] at h
          exact atP_lost r y h
      · simp [hk]
    | none =>
      rw [leads_name hp] at h
      by_cases hk : v.k = 6
      · rw [if_pos hk] at h
        simp only [hk, ne_eq, not_true_eq_false, if_false]
        cases hy : findP s v.fn v.fv with
        | none => simp
        | some y =>
          rw [hy] at h
          simp only [atF_e]
          exact atP_lost r y h
      · simp [hk]

theorem list_whole {v : PVal} (hv : Sound v) (hk : v.k = 5) : v = listV v.l := by
  have h1 := all_at hv.2
  have h2 := hv.len
  obtain ⟨k, n, s, l, fn, fv⟩ := v
  simp only [PVal.k] at hk
  subst hk
  simp only [formedB, Bool.and_eq_true, decide_eq_true_eq] at h1
  obtain ⟨⟨⟨⟨⟨⟨_, _⟩, hn⟩, hs⟩, _⟩, hf⟩, _⟩ := h1
  have hf0 : fv = [] := List.length_eq_zero_iff.1 (hf (by omega))
  subst hf0
  have hn0 := hn (by omega) (by omega)
  subst hn0
  have hs0 : s = ByteArray.empty := by
    have := hs (by omega)
    rw [← bar_of s]
    have h3 : s.data.toList = [] := by rw [← ByteArray.toList_eq]; exact this
    rw [h3]; rfl
  subst hs0
  simp only [PVal.fn, PVal.fv, List.length_nil] at h2
  rw [List.length_eq_zero_iff.1 h2]
  rfl
theorem doc_whole {v : PVal} (hv : Sound v) (hk : v.k = 6) : v = docL v.fn v.fv := by
  have h1 := all_at hv.2
  obtain ⟨k, n, s, l, fn, fv⟩ := v
  simp only [PVal.k] at hk
  subst hk
  simp only [formedB, Bool.and_eq_true, decide_eq_true_eq] at h1
  obtain ⟨⟨⟨⟨⟨⟨_, _⟩, hn⟩, hs⟩, hl⟩, _⟩, _⟩ := h1
  have hf0 : l = [] := List.length_eq_zero_iff.1 (hl (by omega))
  subst hf0
  have hn0 := hn (by omega) (by omega)
  subst hn0
  have hs0 : s = ByteArray.empty := by
    have := hs (by omega)
    rw [← bar_of s]
    have h3 : s.data.toList = [] := by rw [← ByteArray.toList_eq]; exact this
    rw [h3]; rfl
  subst hs0
  rfl
/-- Set to what is there the value stays. -/
theorem set_same {lays : Bool} : ∀ (a : List ByteArray) (v x : PVal), Sound v → getP v a = some x → atP (toSet x) lays v a = ⟨v, false, 0⟩
  | [], v, x, _, h => by injection h with h; rw [atP_nil, h]; rfl
  | s :: r, v, x, hv, h => by
    obtain ⟨y, hy, hx⟩ := getP_cons h
    have ih := set_same (lays := lays) r y x (hv.part (leads_part hy)) hx
    rw [atP_cons]
    cases hp : place s with
    | some n =>
      rw [leads_place hp] at hy
      split at hy
      · rename_i hk
        simp only [hk, hy, ne_eq, not_true_eq_false, if_false, ih, atL, Bool.false_eq_true]
        have e : v.l.set n y = v.l := by
          obtain ⟨h1, h2⟩ := List.getElem?_eq_some_iff.1 hy
          rw [← h2]; exact List.set_getElem_self h1
        rw [e, ← list_whole hv hk]
      · cases hy
    | none =>
      rw [leads_name hp] at hy
      split at hy
      · rename_i hk
        obtain ⟨h1, h2⟩ := find_some hv.up hy
        simp only [hk, hy, ne_eq, not_true_eq_false, if_false, ih]
        unfold atF
        simp only [h1, if_true, Bool.false_eq_true, if_false]
        have e : v.fv.set (posP s v.fn) y = v.fv := by
          obtain ⟨h3, h4⟩ := List.getElem?_eq_some_iff.1 h2
          rw [← h4]; exact List.set_getElem_self h3
        rw [e, ← doc_whole hv hk]
      · cases hy
end Go.Proofs.YthjihdpleclejaaDoor

namespace Go.Proofs.YthjihdpleclejaaDoor

theorem depthL_le {l : List PVal} {D : Nat} : depthL l ≤ D ↔ ∀ x ∈ l, x.depth ≤ D := by
  induction l with
  | nil => simp [depthL]
  | cons y r ih => rw [depthL, List.forall_mem_cons, ← ih]; omega
theorem depthL_set {l : List PVal} {n : Nat} {y q : PVal} (h : l[n]? = some y) (hq : q.depth ≤ y.depth) : depthL (l.set n q) ≤ depthL l :=
  depthL_le.2 fun x hx => by
    rcases List.mem_or_eq_of_mem_set hx with hx | rfl
    · exact depthL_mem hx
    · exact Nat.le_trans hq (depthL_mem (List.mem_of_getElem? h))
theorem depthL_erase (l : List PVal) (n : Nat) : depthL (l.eraseIdx n) ≤ depthL l := depthL_le.2 fun _ hx => depthL_mem (List.mem_of_mem_eraseIdx hx)
theorem sizeL_set : ∀ {l : List PVal} {n : Nat} {y q : PVal}, l[n]? = some y → sizeL (l.set n q) + y.size = sizeL l + q.size
  | [], _, _, _, h => by simp at h
  | a :: r, 0, y, q, h => by
    obtain rfl : a = y := by simpa using h
    simp only [List.set_cons_zero, sizeL]; omega
  | a :: r, n + 1, y, q, h => by
    have := sizeL_set (l := r) (n := n) (y := y) (q := q) (by simpa using h)
    simp only [List.set_cons_succ, sizeL]; omega
theorem sizeL_erase : ∀ (l : List PVal) (n : Nat), sizeL (l.eraseIdx n) ≤ sizeL l
  | [], _ => by simp
  | a :: r, 0 => by simp only [List.eraseIdx_cons_zero, sizeL]; omega
  | a :: r, n + 1 => by have := sizeL_erase r n; simp only [List.eraseIdx_cons_succ, sizeL]; omega
theorem names_erase : ∀ (l : List ByteArray) (n : Nat), namesSize (l.eraseIdx n) ≤ namesSize l
  | [], _ => by simp
  | a :: r, 0 => by simp only [List.eraseIdx_cons_zero, namesSize]; omega
  | a :: r, n + 1 => by have := names_erase r n; simp only [List.eraseIdx_cons_succ, namesSize]; omega
theorem all_set {p : PVal → Bool} {l : List PVal} {n : Nat} {q : PVal} (h : l.all p = true) (hq : p q = true) : (l.set n q).all p = true :=
  List.all_eq_true.2 fun x hx => by
    rcases List.mem_or_eq_of_mem_set hx with hx | rfl
    · exact List.all_eq_true.1 h x hx
    · exact hq
theorem all_erase {α : Type} {p : α → Bool} {l : List α} (n : Nat) (h : l.all p = true) : (l.eraseIdx n).all p = true :=
  List.all_eq_true.2 fun _ hx => List.all_eq_true.1 h _ (List.mem_of_mem_eraseIdx hx)

theorem all_docL (p : PVal → Bool) (fn : List ByteArray) (fv : List PVal) : (docL fn fv).all p = (p (docL fn fv) && fv.all (·.all p)) := by simp [docL, PVal.all, allL_eq]
theorem formed_docL (fn : List ByteArray) (fv : List PVal) : formedB (docL fn fv) = rising fn := by simp [docL, formedB]
theorem spelled_docL (fn : List ByteArray) (fv : List PVal) : spelledB (docL fn fv) = fn.all utf := by simp [docL, spelledB, utf_empty]
theorem few_docL (fn : List ByteArray) (fv : List PVal) : fewB (docL fn fv) = (decide (fv.length ≤ 32) && fn.all fun x => decide (1 ≤ x.size ∧ x.size ≤ 24)) := by simp [docL, fewB]
theorem depth_listV (l : List PVal) : (listV l).depth = depthL l + 1 := by simp [listV, PVal.depth]
theorem depth_docL (fn : List ByteArray) (fv : List PVal) : (docL fn fv).depth = depthL fv + 1 := by simp [docL, PVal.depth]
theorem size_listV (l : List PVal) : (listV l).size = 1 + (digits l.length + sizeL l) := by simp [listV, PVal.size]
theorem size_docL (fn : List ByteArray) (fv : List PVal) : (docL fn fv).size = 1 + (digits fv.length + namesSize fn + sizeL fv) := by simp [docL, PVal.size]

/-- As good as v, no deeper and no greater. -/
def Below' (x v : PVal) : Prop := x.all formedB = true ∧ x.all spelledB = true ∧ x.all fewB = true ∧ x.depth ≤ v.depth ∧ x.size ≤ v.size
theorem listV_set {l : List PVal} {n : Nat} {y q : PVal} (hf : (listV l).all formedB = true) (hs : (listV l).all spelledB = true) (hw : (listV l).all fewB = true) (hy : l[n]? = some y) (hq : Below' q y) : Below' (listV (l.set n q)) (listV l) := by
  obtain ⟨q1, q2, q3, q4, q5⟩ := hq
  rw [all_list, Bool.and_eq_true] at hf hs hw
  have := sizeL_set (q := q) hy
  have := depthL_set hy q4
  refine ⟨by rw [all_list, formed_list, Bool.true_and]; exact all_set hf.2 q1, by rw [all_list, spelled_list, Bool.true_and]; exact all_set hs.2 q2, by rw [all_list, few_list, Bool.and_eq_true]; exact ⟨by rw [List.length_set]; simpa [few_list] using hw.1, all_set hw.2 q3⟩, ?_, ?_⟩
  · rw [depth_listV, depth_listV]; omega
  · rw [size_listV, size_listV, List.length_set]; omega
theorem listV_erase {l : List PVal} (n : Nat) (hf : (listV l).all formedB = true) (hs : (listV l).all spelledB = true) (hw : (listV l).all fewB = true) : Below' (listV (l.eraseIdx n)) (listV l) := by
  rw [all_list, Bool.and_eq_true] at hf hs hw
  have h1 := sizeL_erase l n
  have h2 := depthL_erase l n
  have h3 : (l.eraseIdx n).length ≤ l.length := (List.eraseIdx_sublist l n).length_le
  have h4 : l.length ≤ 32 := by simpa [few_list] using hw.1
  refine ⟨by rw [all_list, formed_list, Bool.true_and]; exact all_erase n hf.2, by rw [all_list, spelled_list, Bool.true_and]; exact all_erase n hs.2, by rw [all_list, few_list, Bool.and_eq_true]; exact ⟨by simp; omega, all_erase n hw.2⟩, ?_, ?_⟩
  · rw [depth_listV, depth_listV]; omega
  · rw [size_listV, size_listV, digits_small (by omega), digits_small (by omega)]; omega
theorem docL_set {fn : List ByteArray} {fv : List PVal} {n : Nat} {y q : PVal} (hf : (docL fn fv).all formedB = true) (hs : (docL fn fv).all spelledB = true) (hw : (docL fn fv).all fewB = true) (hy : fv[n]? = some y) (hq : Below' q y) : Below' (docL fn (fv.set n q)) (docL fn fv) := by
  obtain ⟨q1, q2, q3, q4, q5⟩ := hq
  rw [all_docL, Bool.and_eq_true] at hf hs hw
  rw [formed_docL] at hf
  rw [spelled_docL] at hs
  rw [few_docL] at hw
  have := sizeL_set (q := q) hy
  have := depthL_set hy q4
  refine ⟨by rw [all_docL, formed_docL, Bool.and_eq_true]; exact ⟨hf.1, all_set hf.2 q1⟩, by rw [all_docL, spelled_docL, Bool.and_eq_true]; exact ⟨hs.1, all_set hs.2 q2⟩, by rw [all_docL, few_docL, Bool.and_eq_true, List.length_set]; exact ⟨hw.1, all_set hw.2 q3⟩, ?_, ?_⟩
  · rw [depth_docL, depth_docL]; omega
  · rw [size_docL, size_docL, List.length_set]; omega
theorem docL_erase {fn : List ByteArray} {fv : List PVal} (n : Nat) (hf : (docL fn fv).all formedB = true) (hs : (docL fn fv).all spelledB = true) (hw : (docL fn fv).all fewB = true) : Below' (docL (fn.eraseIdx n) (fv.eraseIdx n)) (docL fn fv) := by
  rw [all_docL, Bool.and_eq_true] at hf hs hw
  rw [formed_docL] at hf
  rw [spelled_docL] at hs
  rw [few_docL, Bool.and_eq_true] at hw
  have h1 := sizeL_erase fv n
  have h2 := depthL_erase fv n
  have h3 : (fv.eraseIdx n).length ≤ fv.length := (List.eraseIdx_sublist fv n).length_le
  have h4 : fv.length ≤ 32 := by simpa using hw.1.1
  have h5 := names_erase fn n
  refine ⟨by rw [all_docL, formed_docL, Bool.and_eq_true]; exact ⟨rising_of (up_del (up_of hf.1) n), all_erase n hf.2⟩, by rw [all_docL, spelled_docL, Bool.and_eq_true]; exact ⟨all_erase n hs.1, all_erase n hs.2⟩, by rw [all_docL, few_docL, Bool.and_eq_true, Bool.and_eq_true]; exact ⟨⟨by simp; omega, all_erase n hw.1.2⟩, all_erase n hw.2⟩, ?_, ?_⟩
  · rw [depth_docL, depth_docL]; omega
  · rw [size_docL, size_docL, digits_small (by omega), digits_small (by omega)]; omega

theorem leads_list {v y : PVal} {s : ByteArray} {n : Nat} (hp : place s = some n) (hy : leads v s = some y) : v.k = 5 ∧ v.l[n]? = some y := by
  rw [leads_place hp] at hy
  split at hy
  · exact ⟨by assumption, hy⟩
  · cases hy
theorem leads_doc {v y : PVal} {s : ByteArray} (hv : Sound v) (hp : place s = none) (hy : leads v s = some y) : v.k = 6 ∧ findP s v.fn v.fv = some y ∧ v.fn[posP s v.fn]? = some s ∧ v.fv[posP s v.fn]? = some y := by
  rw [leads_name hp] at hy
  split at hy
  · exact ⟨by assumption, hy, find_some hv.up hy⟩
  · cases hy
theorem atP_list {tf : PVal → Chg} {lays : Bool} {v y : PVal} {s : ByteArray} {n : Nat} (hp : place s = some n) (hk : v.k = 5) (hy : v.l[n]? = some y) (r : List ByteArray) : atP tf lays v (s :: r) = atL v n (atP tf lays y r) := by
  rw [atP_cons, hp]; simp [hk, hy]
theorem atP_doc {tf : PVal → Chg} {lays : Bool} {v y : PVal} {s : ByteArray} (hp : place s = none) (hk : v.k = 6) (hy : findP s v.fn v.fv = some y) (r : List ByteArray) : atP tf lays v (s :: r) = atF v s (atP tf lays y r) := by
  rw [atP_cons, hp]; simp [hk, hy]
theorem atF_has {v : PVal} {s : ByteArray} (h : v.fn[posP s v.fn]? = some s) (q : Chg) : atF v s q = ⟨docL (if q.gone = true then v.fn.eraseIdx (posP s v.fn) else v.fn) (if q.gone = true then v.fv.eraseIdx (posP s v.fn) else v.fv.set (posP s v.fn) q.v), false, q.e⟩ := by
  unfold atF; simp [h]

/-- What is taken out leaves a good value good. -/
theorem gone_less {lays : Bool} : ∀ (a : List ByteArray) (v x : PVal), a ≠ [] → Sound v → v.all spelledB = true → v.all fewB = true → getP v a = some x → Below' (atP toGone lays v a).v v
  | [], v, x, h, _, _, _, _ => absurd rfl h
  | s :: r, v, x, _, hv, hs, hw, h => by
    obtain ⟨y, hy, hx⟩ := getP_cons h
    have hyp := leads_part hy
    have hb : Below' (atP toGone lays v (s :: r)).v v := by
      cases hp : place s with
      | some n =>
        obtain ⟨hk, hn⟩ := leads_list hp hy
        rw [atP_list hp hk hn]
        have hv' := list_whole hv hk
        have hf := hv.2
        rw [hv'] at hf hs hw
        conv => rhs; rw [hv']
        cases r with
        | nil => simpa [atP_nil, toGone, atL] using listV_erase n hf hs hw
        | cons t u =>
          have ih := gone_less (lays := lays) (t :: u) y x (by simp) (hv.part hyp) (all_part (v := v) (by rw [hv']; exact hs) hyp) (all_part (v := v) (by rw [hv']; exact hw) hyp) hx
          have hg := atP_gone' (tf := toGone) (lays := lays) y t u
          simpa [atL, hg] using listV_set hf hs hw hn ih
      | none =>
        obtain ⟨hk, hfd, h1, h2⟩ := leads_doc hv hp hy
        rw [atP_doc hp hk hfd, atF_has h1]
        have hv' := doc_whole hv hk
        have hf := hv.2
        rw [hv'] at hf hs hw
        conv => rhs; rw [hv']
        cases r with
        | nil => simpa [atP_nil, toGone] using docL_erase _ hf hs hw
        | cons t u =>
          have ih := gone_less (lays := lays) (t :: u) y x (by simp) (hv.part hyp) (all_part (v := v) (by rw [hv']; exact hs) hyp) (all_part (v := v) (by rw [hv']; exact hw) hyp) hx
          have hg := atP_gone' (tf := toGone) (lays := lays) y t u
          simpa [hg] using docL_set hf hs hw h2 ih
    exact hb
theorem gone_good {lays : Bool} {a : List ByteArray} {v x : PVal} (ha : a ≠ []) (hv : v.fits) (hg : v.good = 0) (h : getP v a = some x) : (atP toGone lays v a).v.good = 0 := by
  have hg' := (good_iff v).1 hg
  obtain ⟨h1, h2, h3, h4, h5⟩ := gone_less (lays := lays) a v x ha ⟨hv, hg'.1⟩ hg'.2.1 hg'.2.2.1 h
  exact (good_iff _).2 ⟨h1, h2, h3, by omega, by omega⟩
/-- What was taken out by a name is not there. -/
theorem gone_not {lays : Bool} : ∀ (a : List ByteArray) (v x : PVal) (s : ByteArray), Sound v → a.getLast? = some s → place s = none → getP v a = some x → getP (atP toGone lays v a).v a = none
  | [], _, _, _, _, h, _, _ => by simp at h
  | s :: [], v, x, t, hv, ht, hp, h => by
    obtain rfl : s = t := by simpa using ht
    obtain ⟨y, hy, hx⟩ := getP_cons h
    obtain ⟨hk, hfd, h1, h2⟩ := leads_doc hv hp hy
    rw [atP_doc hp hk hfd, getP, leads_atF hp hk hv.up hv.len, if_pos rfl, atP_nil]
    simp [toGone]
  | s :: t :: u, v, x, z, hv, hz, hp, h => by
    obtain ⟨y, hy, hx⟩ := getP_cons h
    have hz' : (t :: u).getLast? = some z := by rw [List.getLast?_cons_cons] at hz; exact hz
    have ih := gone_not (lays := lays) (t :: u) y x z (hv.part (leads_part hy)) hz' hp hx
    have hg := atP_gone' (tf := toGone) (lays := lays) y t u
    have hl : leads (atP toGone lays v (s :: t :: u)).v s = some (atP toGone lays y (t :: u)).v := by
      cases hps : place s with
      | some n =>
        obtain ⟨hk, hn⟩ := leads_list hps hy
        rw [atP_list hps hk hn, leads_atL hps hn hk hg, if_pos rfl]
      | none =>
        obtain ⟨hk, hfd, h1, h2⟩ := leads_doc hv hps hy
        rw [atP_doc hps hk hfd, leads_atF hps hk hv.up hv.len, if_pos rfl, hg]
        rfl
    rw [getP, hl]
    exact ih
/-- Set twice is set once. -/
theorem set_twice {lays : Bool} (f g : PVal → Chg) (hf : ∀ y, (f y).gone = false) (hg : ∀ y, (g y).gone = false) : ∀ (a : List ByteArray) (v x : PVal), Sound v → getP v a = some x → (atP g lays (atP f lays v a).v a) = atP (fun _ => g (f x).v) lays v a
  | [], v, x, _, h => by injection h with h; rw [atP_nil, atP_nil, atP_nil, h]
  | s :: r, v, x, hv, h => by
    obtain ⟨y, hy, hx⟩ := getP_cons h
    have ih := set_twice (lays := lays) f g hf hg r y x (hv.part (leads_part hy)) hx
    have g1 := atP_gone (lays := lays) hf r y
    have g2 := atP_gone (lays := lays) hg r (atP f lays y r).v
    have g3 := atP_gone (tf := fun _ => g (f x).v) (lays := lays) (fun _ => hg _) r y
    cases hp : place s with
    | some n =>
      obtain ⟨hk, hn⟩ := leads_list hp hy
      have hlt := (List.getElem?_eq_some_iff.1 hn).1
      rw [atP_list hp hk hn, atP_list hp hk hn, ← ih]
      rw [ih] at g2
      rw [atP_list (y := (atP f lays y r).v) hp (by rfl) (by rw [atL_set v n g1, listV_l]; simp [hlt])]
      simp [atL, g1, ih, g3, listV, PVal.l]
    | none =>
      obtain ⟨hk, hfd, h1, h2⟩ := leads_doc hv hp hy
      have hlt := (List.getElem?_eq_some_iff.1 h2).1
      rw [atP_doc hp hk hfd, atP_doc hp hk hfd, atF_has h1, atF_has h1]
      have hfd2 : findP s v.fn (v.fv.set (posP s v.fn) (atP f lays y r).v) = some (atP f lays y r).v := by rw [find_set s v.fn v.fv _ hv.up hv.len h1, if_pos rfl]
      simp only [g1, g3, Bool.false_eq_true, if_false]
      rw [atP_doc (y := (atP f lays y r).v) hp rfl (by simpa [docL, PVal.fn, PVal.fv] using hfd2), atF_has (by simpa [docL, PVal.fn] using h1), ih]
      simp [g3, docL, PVal.fn, PVal.fv]
/-- A changed value's mass. -/
theorem massL_set : ∀ (l : List PVal) (n : Nat) (q : PVal), massL (l.set n q) ≤ massL l + q.mass
  | [], _, _ => by simp
  | a :: r, 0, q => by simp only [List.set_cons_zero, massL]; omega
  | a :: r, n + 1, q => by have := massL_set r n q; simp only [List.set_cons_succ, massL]; omega
theorem massL_erase : ∀ (l : List PVal) (n : Nat), massL (l.eraseIdx n) ≤ massL l
  | [], _ => by simp
  | a :: r, 0 => by simp only [List.eraseIdx_cons_zero, massL]; omega
  | a :: r, n + 1 => by have := massL_erase r n; simp only [List.eraseIdx_cons_succ, massL]; omega
theorem massF_erase : ∀ (l : List ByteArray) (n : Nat), massF (l.eraseIdx n) ≤ massF l
  | [], _ => by simp
  | a :: r, 0 => by simp only [List.eraseIdx_cons_zero, massF]; omega
  | a :: r, n + 1 => by have := massF_erase r n; simp only [List.eraseIdx_cons_succ, massF]; omega
theorem massL_ins : ∀ (l : List PVal) (n : Nat) (q : PVal), massL (insA l n q) = massL l + q.mass
  | l, 0, q => by simp only [insA, List.take_zero, List.drop_zero, List.nil_append, massL]; omega
  | [], n + 1, q => by simp [insA, massL]
  | a :: r, n + 1, q => by
    have := massL_ins r n q
    simp only [insA, List.take_succ_cons, List.drop_succ_cons, List.cons_append, massL] at this ⊢
    omega
theorem massF_ins : ∀ (l : List ByteArray) (n : Nat) (q : ByteArray), massF (insA l n q) = massF l + (32 + q.size)
  | l, 0, q => by simp only [insA, List.take_zero, List.drop_zero, List.nil_append, massF]; omega
  | [], n + 1, q => by simp [insA, massF]
  | a :: r, n + 1, q => by
    have := massF_ins r n q
    simp only [insA, List.take_succ_cons, List.drop_succ_cons, List.cons_append, massF] at this ⊢
    omega
theorem mass_l (v : PVal) : massL v.l ≤ v.mass := by obtain ⟨k, n, s, l, fn, fv⟩ := v; simp only [PVal.l, PVal.mass]; omega
theorem mass_f (v : PVal) : massF v.fn + massL v.fv ≤ v.mass := by obtain ⟨k, n, s, l, fn, fv⟩ := v; simp only [PVal.fn, PVal.fv, PVal.mass]; omega
theorem mass_listV (l : List PVal) : (listV l).mass = 32 + massL l := by simp [listV, PVal.mass, massL, massF]
theorem mass_docL (fn : List ByteArray) (fv : List PVal) : (docL fn fv).mass = 32 + massF fn + massL fv := by simp [docL, PVal.mass, massL]
theorem mass_zeroP : zeroP.mass = 32 := by simp [zeroP, PVal.mass, massL, massF]
theorem mass_docE : docE.mass = 32 := by simp [docE, PVal.mass, massL, massF]
theorem atL_mass (v : PVal) (n : Nat) (q : Chg) : (atL v n q).v.mass ≤ v.mass + q.v.mass + 32 := by
  have h1 := mass_l v
  unfold atL
  simp only
  rw [mass_listV]
  split
  · have := massL_erase v.l n; omega
  · have := massL_set v.l n q.v; omega
theorem atF_mass (v : PVal) (s : ByteArray) (q : Chg) : (atF v s q).v.mass ≤ v.mass + q.v.mass + s.size + 64 := by
  have h1 := mass_f v
  unfold atF
  simp only
  split
  · rw [mass_docL]
    split
    · have := massL_erase v.fv (posP s v.fn); have := massF_erase v.fn (posP s v.fn); omega
    · have := massL_set v.fv (posP s v.fn) q.v; omega
  · rw [mass_docL]
    split
    · omega
    · rw [massL_ins, massF_ins]; omega
theorem atP_mass {tf : PVal → Chg} {lays : Bool} {M T : Nat} (hM : 32 ≤ M) (hT : 32 ≤ T) (hto : ∀ y, y.mass ≤ M → (tf y).v.mass ≤ T) : ∀ (a : List ByteArray) (v : PVal), v.mass ≤ M → (∀ s ∈ a, s.size ≤ 100) → (atP tf lays v a).v.mass ≤ T + a.length * (M + 200)
  | [], v, hv, _ => by rw [atP_nil]; have := hto v hv; simp; omega
  | s :: r, v, hv, ha => by
    have hs := ha s (by simp)
    have ih := fun y hy => atP_mass hM hT hto (lays := lays) r y hy (fun x hx => ha x (by simp [hx]))
    rw [atP_cons, List.length_cons, Nat.succ_mul]
    split
    · split
      · rw [mass_zeroP]; omega
      · split
        · rw [mass_zeroP]; omega
        · rename_i y hy
          have h1 := ih y (Nat.le_trans (Nat.le_trans (mass_mem (List.mem_of_getElem? hy)) (mass_l v)) hv)
          refine Nat.le_trans (atL_mass v _ (atP tf lays y r)) ?_
          omega
    · split
      · rw [mass_zeroP]; omega
      · split
        · rename_i y hy
          have h1 := ih y (Nat.le_trans (Nat.le_trans (Nat.le_trans (mass_mem (find_mem hy)) (by omega)) (mass_f v)) hv)
          have h2 := atF_mass v s (atP tf lays y r)
          omega
        · split
          · rw [mass_zeroP]; omega
          · have h1 := ih docE (by rw [mass_docE]; exact hM)
            have h2 := atF_mass v s (atP tf lays docE r)
            omega
theorem name_size {s : ByteArray} (h : stepB s = true) : s.size ≤ 24 := by
  rw [← bsz_list]
  unfold stepB place isNm at h
  generalize s.data.toList = l at *
  match l, h with
  | [], _ => simp
  | [a], _ => simp
  | [a, b], _ => simp
  | a :: b :: c :: r, h =>
    simp only [placeB, nameB, Option.isSome_none, Bool.false_or, Bool.and_eq_true, decide_eq_true_eq] at h
    simp only [List.length_cons] at h ⊢
    omega
end Go.Proofs.YthjihdpleclejaaDoor

namespace Go.Proofs.YthjihdpleclejaaDoor

/-- The document's With from some field on. -/
def withR (nm : ByteArray) (x : PVal) : Bool → List ByteArray → List PVal → List (ByteArray × PVal)
  | done, a :: r, y :: ys =>
    (if done = false ∧ ¬ scmp a nm < 0 then [(nm, x)] else []) ++ (if a = nm then [] else [(a, y)]) ++ withR nm x (done || decide (¬ scmp a nm < 0)) r ys
  | done, _, _ => if done = false then [(nm, x)] else []
theorem withR_keep (nm : ByteArray) (x : PVal) : ∀ (fn : List ByteArray) (fv : List PVal), fn.length = fv.length → nm ∉ fn → withR nm x true fn fv = fn.zip fv
  | [], _, _, _ => by simp [withR]
  | a :: r, [], h, _ => by simp at h
  | a :: r, y :: ys, hl, h => by
    have h1 : a ≠ nm := fun e => h (by simp [e])
    have ih := withR_keep nm x r ys (by simpa using hl) (fun e => h (List.mem_cons_of_mem _ e))
    simp [withR, h1, ih]
theorem up_not {nm a : ByteArray} {r : List ByteArray} (h : Up (a :: r)) (ha : ¬ scmp a nm < 0) : nm ∉ r := fun e => by
  have := (List.pairwise_cons.1 h).1 nm e
  exact ha this
theorem withR_drop (nm : ByteArray) (x : PVal) : ∀ (fn : List ByteArray) (fv : List PVal), Up fn → fn.length = fv.length → fn[posP nm fn]? = some nm → withR nm x true fn fv = (fn.eraseIdx (posP nm fn)).zip (fv.eraseIdx (posP nm fn))
  | [], _, _, _, h => by simp at h
  | a :: r, [], _, h, _ => by simp at h
  | a :: r, y :: ys, hu, hl, h => by
    rw [posP] at h ⊢
    by_cases ha : scmp a nm < 0
    · rw [if_pos ha] at h ⊢
      have ih := withR_drop nm x r ys (List.pairwise_cons.1 hu).2 (by simpa using hl) (by simpa using h)
      have h1 := scmp_ne ha
      simp [withR, h1, ih]
    · rw [if_neg ha] at h ⊢
      obtain rfl : a = nm := by simpa using h
      simp [withR, withR_keep a x r ys (by simpa using hl) (up_not hu ha)]
theorem withR_set (nm : ByteArray) (x : PVal) : ∀ (fn : List ByteArray) (fv : List PVal), Up fn → fn.length = fv.length → withR nm x false fn fv = if fn[posP nm fn]? = some nm then fn.zip (fv.set (posP nm fn) x) else (insA fn (posP nm fn) nm).zip (insA fv (posP nm fn) x)
  | [], [], _, _ => by simp [withR, insA]
  | [], y :: ys, _, h => by simp at h
  | a :: r, [], _, h => by simp at h
  | a :: r, y :: ys, hu, hl => by
    rw [posP]
    by_cases ha : scmp a nm < 0
    · rw [if_pos ha]
      have ih := withR_set nm x r ys (List.pairwise_cons.1 hu).2 (by simpa using hl)
      have h1 := scmp_ne ha
      simp only [withR, ha, not_true_eq_false, and_false, if_false, h1, List.nil_append, decide_false, Bool.or_false, ih, List.getElem?_cons_succ, List.set_cons_succ]
      split <;> simp [insA]
    · rw [if_neg ha]
      have hk := withR_keep nm x r ys (by simpa using hl) (up_not hu ha)
      by_cases e : a = nm
      · subst e
        simp [withR, ha, hk]
      · simp [withR, ha, hk, e, insA]
theorem insA_len {α : Type} (l : List α) (i : Nat) (x : α) (h : i ≤ l.length) : (insA l i x).length = l.length + 1 := by simp [insA]; omega
theorem zip_fst {α β : Type} {a : List α} {b : List β} (h : a.length = b.length) : (a.zip b).map Prod.fst = a := List.map_fst_zip (by omega)
theorem zip_snd {α β : Type} {a : List α} {b : List β} (h : a.length = b.length) : (a.zip b).map Prod.snd = b := List.map_snd_zip (by omega)
/-- With makes what the change makes. -/
theorem with_at {v : PVal} {s : ByteArray} {q : Chg} (hu : Up v.fn) (hl : v.fn.length = v.fv.length) (hg : q.gone = false) : (atF v s q).v = docL ((withR s q.v false v.fn v.fv).map Prod.fst) ((withR s q.v false v.fn v.fv).map Prod.snd) := by
  have hp := posP_le s v.fn
  rw [withR_set s q.v v.fn v.fv hu hl]
  unfold atF
  simp only [hg, Bool.false_eq_true, if_false]
  split
  · rename_i h
    rw [zip_fst (by rw [List.length_set]; exact hl), zip_snd (by rw [List.length_set]; exact hl)]
  · rw [zip_fst (by rw [insA_len _ _ _ hp, insA_len _ _ _ (by omega), hl]), zip_snd (by rw [insA_len _ _ _ hp, insA_len _ _ _ (by omega), hl])]
theorem with_gone {v : PVal} {s : ByteArray} {q : Chg} {x : PVal} (hu : Up v.fn) (hl : v.fn.length = v.fv.length) (hg : q.gone = true) (h : v.fn[posP s v.fn]? = some s) : (atF v s q).v = docL ((withR s x true v.fn v.fv).map Prod.fst) ((withR s x true v.fn v.fv).map Prod.snd) := by
  have h2 : posP s v.fn < v.fv.length := by rw [← hl]; exact (List.getElem?_eq_some_iff.1 h).1
  have h1 := (List.getElem?_eq_some_iff.1 h).1
  rw [withR_drop s x v.fn v.fv hu hl h, atF_has h]
  simp only [hg, if_true]
  rw [zip_fst (by simp [List.length_eraseIdx, h2, hl]), zip_snd (by simp [List.length_eraseIdx, h2, hl])]
end Go.Proofs.YthjihdpleclejaaDoor

namespace Go.Proofs.YthjihdpleclejaaDoor
def bs1 (c : UInt8) : ByteArray := ⟨#[c]⟩
def p1b : ByteArray := ⟨#[97, 46, 49, 46, 98]⟩
def oneB (n : Int) : PVal := listV [intV 1, docV (bs1 98) (intV n)]
/-- The examples' value, with n at its path. -/
def knownV (n : Int) : PVal := docL [bs1 97, bs1 99] [oneB n, textV (bs1 120)]
theorem steps_1b : stepsP p1b = some [bs1 97, bs1 49, bs1 98] := by kernel_rfl
theorem place_a : place (bs1 97) = none := by kernel_rfl
theorem place_1 : place (bs1 49) = some 1 := by kernel_rfl
theorem place_b : place (bs1 98) = none := by kernel_rfl
theorem got_known (n : Int) : getP (knownV n) [bs1 97, bs1 49, bs1 98] = some (intV n) := by kernel_rfl
theorem set_known (n m : Int) : atP (toSet (intV m)) true (knownV n) [bs1 97, bs1 49, bs1 98] = ⟨knownV m, false, 0⟩ := by kernel_rfl
theorem good_known2 : (knownV 2).good = 0 := by kernel_rfl
theorem good_known3 : (knownV 3).good = 0 := by kernel_rfl
end Go.Proofs.YthjihdpleclejaaDoor

namespace Go.Proofs.YthjihdpleclejaaDoor

theorem ask_ok {v : PVal} {p : ByteArray} {also : List PVal} (h : askP v p also = 0) : v.good = 0 ∧ (∃ a, stepsP p = some a) ∧ ∀ x ∈ also, x.good = 0 := by
  unfold askP at h
  split at h
  · rename_i h1; exact absurd h h1
  · rename_i h1
    split at h
    · simp at h
    · rename_i h2
      refine ⟨by simpa using h1, ?_, fun x hx => ?_⟩
      · cases hs : stepsP p with
        | none => exact absurd hs h2
        | some a => exact ⟨a, rfl⟩
      · cases hf : also.find? (fun x => x.good != 0) with
        | none => have := List.find?_eq_none.1 hf x hx; simpa using this
        | some y =>
          rw [hf] at h
          have := List.find?_some hf
          simp only [Option.elim_some] at h
          simp [h] at this
theorem ask_of {v : PVal} {p : ByteArray} {also : List PVal} {a : List ByteArray} (hg : v.good = 0) (hs : stepsP p = some a) (hx : ∀ x ∈ also, x.good = 0) : askP v p also = 0 := by
  unfold askP
  rw [hg, if_neg (by simp), if_neg (by simp [hs]), List.find?_eq_none.2 (fun x h => by simp [hx x h])]
  rfl
theorem done_bad {tf : PVal → Chg} {lays : Bool} {v : PVal} {p : ByteArray} {also : List PVal} (h : (doneP tf lays v p also).2 ≠ 0) : (doneP tf lays v p also).1 = zeroP := by
  unfold doneP toldP at *
  split
  · rfl
  · rename_i h1
    rw [if_neg h1] at h
    split
    · rfl
    · rename_i h2
      rw [if_neg h2] at h
      split
      · rfl
      · rename_i h3
        rw [if_neg h3] at h
        exact absurd rfl h
theorem done_ok {tf : PVal → Chg} {lays : Bool} {v : PVal} {p : ByteArray} {also : List PVal} (h : (doneP tf lays v p also).2 = 0) : v.good = 0 ∧ (∀ x ∈ also, x.good = 0) ∧ ∃ a, stepsP p = some a ∧ (atP tf lays v a).e = 0 ∧ (atP tf lays v a).v = (doneP tf lays v p also).1 ∧ (doneP tf lays v p also).1.good = 0 := by
  have ha : askP v p also = 0 := by
    by_cases h1 : askP v p also = 0
    · exact h1
    · unfold doneP at h; rw [if_pos h1] at h; exact absurd h h1
  obtain ⟨h1, ⟨a, h2⟩, h3⟩ := ask_ok ha
  have hd : doneP tf lays v p also = toldP (atP tf lays v a) := by unfold doneP; rw [ha, if_neg (by simp), h2]; rfl
  rw [hd] at h ⊢
  refine ⟨h1, h3, a, h2, ?_⟩
  unfold toldP at *
  by_cases h4 : (atP tf lays v a).e = 0
  · rw [if_neg (by simp [h4])] at h ⊢
    by_cases h5 : (atP tf lays v a).v.good = 0
    · rw [if_neg (by simp [h5])]
      exact ⟨h4, rfl, h5⟩
    · rw [if_pos h5] at h; exact absurd h h5
  · rw [if_pos h4] at h; exact absurd h h4
theorem done_of {tf : PVal → Chg} {lays : Bool} {v : PVal} {p : ByteArray} {also : List PVal} {a : List ByteArray} (hg : v.good = 0) (hs : stepsP p = some a) (hx : ∀ x ∈ also, x.good = 0) (he : (atP tf lays v a).e = 0) (hq : (atP tf lays v a).v.good = 0) : doneP tf lays v p also = ((atP tf lays v a).v, 0) := by
  unfold doneP toldP
  rw [ask_of hg hs hx, if_neg (by simp), hs, Option.getD_some, he, if_neg (by simp), hq, if_neg (by simp)]
theorem steps_small {p : ByteArray} {a : List ByteArray} (h : stepsP p = some a) : a.length ≤ 8 ∧ ∀ s ∈ a, s.size ≤ 24 := ⟨(stepsP_is h).2.1, fun s hs => name_size ((stepsP_is h).2.2.1 s hs)⟩
theorem done_mass {tf : PVal → Chg} {lays : Bool} {v : PVal} {p : ByteArray} {also : List PVal} {M T : Nat} (hM : 32 ≤ M) (hT : 32 ≤ T) (hto : ∀ y, y.mass ≤ M → (tf y).v.mass ≤ T) (hv : v.mass ≤ M) : (doneP tf lays v p also).1.mass ≤ T + 8 * (M + 200) := by
  by_cases h : (doneP tf lays v p also).2 = 0
  · obtain ⟨_, _, a, h1, _, h2, _⟩ := done_ok h
    rw [← h2]
    obtain ⟨h3, h4⟩ := steps_small h1
    have := atP_mass hM hT hto (lays := lays) a v hv (fun s hs => by have := h4 s hs; omega)
    have h5 : a.length * (M + 200) ≤ 8 * (M + 200) := Nat.mul_le_mul_right _ h3
    omega
  · rw [done_bad h, mass_zeroP]; omega
theorem got_good {v : PVal} {p : ByteArray} {a : List ByteArray} (hg : v.good = 0) (hs : stepsP p = some a) : gotP v p = getP v a := by
  unfold gotP
  rw [hg, if_neg (by simp), hs]; rfl
theorem got_path {v : PVal} {p : ByteArray} (hs : stepsP p = none) : gotP v p = none := by
  unfold gotP
  rw [hs]; split <;> rfl
theorem set_mass {v x : PVal} {p : ByteArray} {M : Nat} (hM : 32 ≤ M) (hv : v.mass ≤ M) (hx : x.mass ≤ M) : (setP v p x).1.mass ≤ M + 8 * (M + 200) := done_mass hM hM (fun _ _ => hx) hv
/-- Paths of other steps. -/
theorem set_apart {v x : PVal} {p q : ByteArray} {a b : List ByteArray} (hv : v.fits) (he : (setP v p x).2 = 0) (ha : stepsP p = some a) (hb : stepsP q = some b) (hn : ∃ (i : Nat) (y z : ByteArray), a[i]? = some y ∧ b[i]? = some z ∧ y ≠ z) : gotP (setP v p x).1 q = gotP v q := by
  obtain ⟨h1, _, a', h2, h3, h4, h5⟩ := done_ok he
  obtain rfl : a' = a := by rw [ha] at h2; injection h2 with h2; exact h2.symm
  have hs : (setP v p x).1.good = 0 := h5
  rw [got_good hs hb, got_good h1 hb]
  have h6 : (setP v p x).1 = (atP (toSet x) true v a').v := h4.symm
  rw [h6]
  exact apart_law (fun _ => rfl) true a' v b ⟨hv, ((good_iff v).1 h1).1⟩ h3 hn
end Go.Proofs.YthjihdpleclejaaDoor

namespace Go.Proofs.YthjihdpleclejaaDoor

theorem set_back {v x : PVal} {p : ByteArray} (hv : v.fits) (h : (setP v p x).2 = 0) : gotP (setP v p x).1 p = some x ∧ (setP v p x).1.good = 0 := by
  obtain ⟨h1, _, a, h2, h3, h4, h5⟩ := done_ok h
  have hs : (setP v p x).1.good = 0 := h5
  refine ⟨?_, hs⟩
  rw [got_good hs h2]
  have h6 : (setP v p x).1 = (atP (toSet x) true v a).v := h4.symm
  rw [h6]
  obtain ⟨y, h7, _⟩ := set_got (tf := toSet x) (fun _ => rfl) true a v ⟨hv, ((good_iff v).1 h1).1⟩ h3
  exact h7
theorem got_some {v x : PVal} {p : ByteArray} (h : gotP v p = some x) : v.good = 0 ∧ ∃ a, stepsP p = some a ∧ getP v a = some x := by
  unfold gotP at h
  by_cases hg : v.good = 0
  · rw [if_neg (by simp [hg])] at h
    obtain ⟨a, h1, h2⟩ := Option.bind_eq_some_iff.1 h
    exact ⟨hg, a, h1, h2⟩
  · rw [if_pos hg] at h; cases h
theorem set_old {v x : PVal} {p : ByteArray} (hv : v.fits) (h : gotP v p = some x) : setP v p x = (v, 0) := by
  obtain ⟨hg, a, h1, h2⟩ := got_some h
  have h3 : atP (toSet x) true v a = ⟨v, false, 0⟩ := set_same a v x ⟨hv, ((good_iff v).1 hg).1⟩ h2
  have hx : x.good = 0 := good_getP a v x hg h2
  have := done_of (tf := toSet x) (lays := true) (v := v) (p := p) (also := [x]) hg h1 (fun y hy => by rw [List.mem_singleton.1 hy]; exact hx) (by rw [h3]) (by rw [h3]; exact hg)
  unfold setP
  rw [this, h3]
theorem step_long {s : ByteArray} (h : stepB s = true) : 1 ≤ s.data.toList.length := by
  unfold stepB place isNm at h
  cases hs : s.data.toList with
  | nil => rw [hs] at h; simp [placeB, nameB] at h
  | cons a r => simp
theorem unset_gone {v x : PVal} {p : ByteArray} (hv : v.fits) (h : gotP v p = some x) : ∃ a, stepsP p = some a ∧ unsetP v p = ((atP toGone false v a).v, 0) ∧ (atP toGone false v a).v.good = 0 := by
  obtain ⟨hg, a, h1, h2⟩ := got_some h
  have hne : a ≠ [] := by
    have := (stepsP_is h1).1
    intro e; subst e; simp at this
  have h3 := gone_good (lays := false) hne hv hg h2
  have h4 : (atP toGone false v a).e = 0 := atP_e false a v x h2
  refine ⟨a, h1, ?_, h3⟩
  unfold unsetP
  rw [ask_of hg h1 (fun x hx => by simp at hx), if_neg (by simp), h, if_neg (by simp)]
  exact done_of hg h1 (fun x hx => by simp at hx) h4 h3
theorem unset_none {v : PVal} {p : ByteArray} (hv : v.fits) (h : (unsetP v p).2 ≠ 0) : gotP v p = none := by
  cases hx : gotP v p with
  | none => rfl
  | some x =>
    obtain ⟨a, _, h2, _⟩ := unset_gone hv hx
    rw [h2] at h
    exact absurd rfl h
theorem unset_ok {v : PVal} {p : ByteArray} (hv : v.fits) (h : (unsetP v p).2 = 0) : v.good = 0 ∧ ∃ a s, stepsP p = some a ∧ a[a.length - 1]? = some s ∧ 1 ≤ s.data.toList.length ∧ 1 ≤ a.length ∧ (gotP v p = none → (unsetP v p).1 = v) ∧ (∀ x, gotP v p = some x → setP v p x = (v, 0) ∧ (place s = none → gotP (unsetP v p).1 p = none)) := by
  have ha : askP v p [] = 0 := by
    by_cases h1 : askP v p [] = 0
    · exact h1
    · unfold unsetP at h; rw [if_pos h1] at h; exact absurd h h1
  obtain ⟨h1, ⟨a, h2⟩, _⟩ := ask_ok ha
  have hl := (stepsP_is h2).1
  obtain ⟨s, hs⟩ : ∃ s, a[a.length - 1]? = some s := ⟨_, List.getElem?_eq_getElem (by omega)⟩
  refine ⟨h1, a, s, h2, hs, step_long ((stepsP_is h2).2.2.1 s (List.mem_of_getElem? hs)), hl, fun hn => ?_, fun x hx => ⟨set_old hv hx, fun hp => ?_⟩⟩
  · unfold unsetP
    rw [ha, if_neg (by simp), hn, if_pos rfl]
  · obtain ⟨a', h3, h4, h5⟩ := unset_gone hv hx
    obtain rfl : a' = a := by rw [h2] at h3; injection h3 with h3; exact h3.symm
    rw [h4]
    show gotP (atP toGone false v a').v p = none
    rw [got_good h5 h2]
    obtain ⟨_, a2, h6, h7⟩ := got_some hx
    obtain rfl : a2 = a' := by rw [h2] at h6; injection h6 with h6; exact h6.symm
    exact gone_not a2 v x s ⟨hv, ((good_iff v).1 h1).1⟩ (by rw [List.getLast?_eq_getElem?]; exact hs) hp h7
theorem unset_mass {v : PVal} {p : ByteArray} {M : Nat} (hM : 32 ≤ M) (hv : v.mass ≤ M) : (unsetP v p).1.mass ≤ 32 + 8 * (M + 200) := by
  unfold unsetP
  split
  · rw [mass_zeroP]; omega
  · split
    · show v.mass ≤ _; omega
    · exact done_mass hM (by omega) (fun y _ => by simp [toGone, mass_zeroP]) hv
theorem got_mass {v : PVal} {p : ByteArray} {M : Nat} (hM : 32 ≤ M) (hv : v.mass ≤ M) : ((gotP v p).getD zeroP).mass ≤ M := by
  cases h : gotP v p with
  | none => rw [Option.getD_none, mass_zeroP]; exact hM
  | some x =>
    obtain ⟨_, a, _, h2⟩ := got_some h
    have := mass_getP a v x h2
    show x.mass ≤ M
    omega
/-- The first byte of a place is a digit. -/
theorem place_first {s : ByteArray} {c : UInt8} (hc : s.data.toList[0]? = some c) (h : ¬ (48 ≤ c.toNat ∧ c.toNat ≤ 57)) : place s = none := by
  unfold place
  cases hs : s.data.toList with
  | nil => rfl
  | cons a r =>
    rw [hs] at hc
    obtain rfl : a = c := by simpa using hc
    have hd : digB a = false := by
      cases hb : digB a with
      | false => rfl
      | true => exact absurd (by simpa [digB] using hb) h
    rcases r with _ | ⟨b, _ | ⟨b2, r⟩⟩
    · rw [placeB, hd]; rfl
    · rw [placeB, hd]; simp
    · rfl
end Go.Proofs.YthjihdpleclejaaDoor
