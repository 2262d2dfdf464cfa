/-
  Plain paths: a path's steps, by the program's way and by the document's. No condition.
  Plain paths: where steps lead in a value; what becomes of a value with a change at their end; the document's way. No condition.
-/
import Derived.Test.YtckdgmjekfpcjaaDoorMgPlain
import Derived.Lib.Split
import Derived.Test.YtckdgmjekfpcjaaDoorMgVal12
namespace Go.Proofs.YtckdgmjekfpcjaaDoor

def digB (c : UInt8) : Bool := decide (48 ≤ c.toNat) && decide (c.toNat ≤ 57)
def letB (c : UInt8) : Bool := (decide (97 ≤ c.toNat) && decide (c.toNat ≤ 122)) || (decide (65 ≤ c.toNat) && decide (c.toNat ≤ 90)) || decide (c.toNat = 95)
/-- The number of a step: one or two digits, no 0 ahead. -/
def placeB : List UInt8 → Option Nat
  | [a] => if digB a = true then some (a.toNat - 48) else none
  | [a, b] => if digB a = true ∧ digB b = true ∧ a.toNat ≠ 48 then some (10 * (a.toNat - 48) + (b.toNat - 48)) else none
  | _ => none
/-- A name of at most 24 bytes. -/
def nameB : List UInt8 → Bool
  | [] => false
  | a :: r => letB a && r.all (fun c => letB c || digB c) && decide (r.length ≤ 23)
def place (s : ByteArray) : Option Nat := placeB s.data.toList
def isNm (s : ByteArray) : Bool := nameB s.data.toList
def stepB (s : ByteArray) : Bool := (place s).isSome || isNm s

def bar (l : List UInt8) : ByteArray := ⟨l.toArray⟩
theorem bar_list (l : List UInt8) : (bar l).data.toList = l := rfl
theorem bar_of (s : ByteArray) : bar s.data.toList = s := by cases s; simp [bar]
/-- What lies between the points. -/
def cutG (cur : List UInt8) : List UInt8 → List (List UInt8)
  | [] => [cur]
  | c :: r => if c = 46 then cur :: cutG [] r else cutG (cur ++ [c]) r
/-- A path's steps. -/
def stepsOf (l : List ByteArray) : Option (List ByteArray) := if l.length ≤ 8 ∧ l.all stepB = true then some l else none
def stepsP (p : ByteArray) : Option (List ByteArray) := stepsOf ((cutG [] p.data.toList).map bar)

theorem digB_le {c : UInt8} (h : digB c = true) : 48 ≤ c.toNat ∧ c.toNat ≤ 57 := by
  simpa [digB] using h
theorem place_lt {s : ByteArray} {n : Nat} (h : place s = some n) : n ≤ 99 := by
  unfold place placeB at h
  split at h
  · split at h
    · rename_i a hd
      injection h with h
      simp only [digB, Bool.and_eq_true, decide_eq_true_eq] at hd
      omega
    · cases h
  · split at h
    · rename_i a b hd
      injection h with h
      simp only [digB, Bool.and_eq_true, decide_eq_true_eq] at hd
      omega
    · cases h
  · cases h

theorem index_cons (c : UInt8) (r : List UInt8) : Lib.index (c :: r) [46] = if c = 46 then 0 else if Lib.index r [46] = -1 then -1 else Lib.index r [46] + 1 := by
  by_cases h : c = 46
  · subst h
    rw [if_pos rfl]
    exact Lib.index_first (i := 0) (by simp) (by simp [Lib.occAt]) (fun j hj => absurd hj (Nat.not_lt_zero _))
  · rw [if_neg h]
    have h1 : Lib.NoOcc (c :: r) [46] 1 := fun j hj => by
      obtain rfl : j = 0 := by omega
      simp [Lib.occAt, List.isPrefixOf, Ne.symm h]
    rw [Lib.index_drop h1 (by simp)]
    simp
theorem index_nil46 : Lib.index [] [46] = -1 := Lib.index_none (fun j hj => by
  obtain rfl : j = 0 := by simpa using hj
  simp [Lib.occAt])
theorem cutG_miss : ∀ (l cur : List UInt8), Lib.index l [46] = -1 → cutG cur l = [cur ++ l]
  | [], cur, _ => by simp [cutG]
  | c :: r, cur, h => by
    rw [index_cons] at h
    by_cases hc : c = 46
    · rw [if_pos hc] at h; cases h
    · rw [if_neg hc] at h
      have hr : Lib.index r [46] = -1 := by
        by_cases h0 : Lib.index r [46] = -1
        · exact h0
        · rw [if_neg h0] at h
          have := Lib.index_ge r [46]
          omega
      rw [cutG, if_neg hc, cutG_miss r _ hr, List.append_assoc]
      rfl
theorem cutG_hit : ∀ (l cur : List UInt8) (i : Nat), Lib.index l [46] = i → cutG cur l = (cur ++ l.take i) :: cutG [] (l.drop (i + 1))
  | [], cur, i, h => by rw [index_nil46] at h; omega
  | c :: r, cur, i, h => by
    rw [index_cons] at h
    by_cases hc : c = 46
    · rw [if_pos hc] at h
      obtain rfl : i = 0 := by omega
      simp [cutG, hc]
    · rw [if_neg hc] at h
      by_cases h0 : Lib.index r [46] = -1
      · rw [if_pos h0] at h; omega
      · rw [if_neg h0] at h
        have hg := Lib.index_ge r [46]
        obtain ⟨j, rfl⟩ : ∃ j, i = j + 1 := ⟨i - 1, by omega⟩
        rw [cutG, if_neg hc, cutG_hit r _ j (by omega), List.append_assoc]
        simp
theorem cutG_len : ∀ (l cur : List UInt8), (cutG cur l).length ≤ l.length + 1
  | [], cur => by simp [cutG]
  | c :: r, cur => by
    rw [cutG]
    split
    · have := cutG_len r []
      simp only [List.length_cons]; omega
    · have := cutG_len r (cur ++ [c])
      simp only [List.length_cons]; omega
theorem cutG_pos : ∀ (l cur : List UInt8), 1 ≤ (cutG cur l).length
  | [], cur => by simp [cutG]
  | c :: r, cur => by
    rw [cutG]
    split
    · simp
    · exact cutG_pos r _
theorem splitK_cut : ∀ (k : Nat) (l : List UInt8), (cutG [] l).length ≤ k + 1 → Lib.splitK [46] 0 k l = cutG [] l
  | 0, l, h => by
    rcases Int.lt_or_le (Lib.index l [46]) 0 with h0 | h0
    · rw [cutG_miss l [] (by have := Lib.index_ge l [46]; omega)]; rfl
    · obtain ⟨i, hi⟩ := Int.eq_ofNat_of_zero_le h0
      rw [cutG_hit l [] i hi] at h
      have := cutG_pos (l.drop (i + 1)) []
      simp only [List.length_cons] at h
      omega
  | k + 1, l, h => by
    rw [Lib.splitK]
    rcases Int.lt_or_le (Lib.index l [46]) 0 with h0 | h0
    · have h1 : Lib.index l [46] = -1 := by have := Lib.index_ge l [46]; omega
      rw [cutG_miss l [] h1, h1]; rfl
    · obtain ⟨i, hi⟩ := Int.eq_ofNat_of_zero_le h0
      rw [cutG_hit l [] i hi] at h ⊢
      simp only [List.length_cons] at h
      have hm : ¬ (Lib.index l [46] == -1) = true := fun e => by have := beq_iff_eq.1 e; omega
      have e : (Lib.index l [46]).toNat = i := by omega
      rw [if_neg hm, e, splitK_cut k _ (by simpa using Nat.le_of_succ_le_succ h)]
      simp
theorem splitK_more : ∀ (k : Nat) (l : List UInt8), k + 1 ≤ (cutG [] l).length → (Lib.splitK [46] 0 k l).length = k + 1
  | 0, l, _ => rfl
  | k + 1, l, h => by
    rw [Lib.splitK]
    rcases Int.lt_or_le (Lib.index l [46]) 0 with h0 | h0
    · rw [cutG_miss l [] (by have := Lib.index_ge l [46]; omega)] at h
      simp at h
    · obtain ⟨i, hi⟩ := Int.eq_ofNat_of_zero_le h0
      rw [cutG_hit l [] i hi] at h
      simp only [List.length_cons] at h
      have hm : ¬ (Lib.index l [46] == -1) = true := fun e => by have := beq_iff_eq.1 e; omega
      have e : (Lib.index l [46]).toNat = i := by omega
      rw [if_neg hm, e, List.length_cons, splitK_more k _ (by simpa using Nat.le_of_succ_le_succ h)]
def point : ByteArray := ⟨#[46]⟩
/-- What strings.SplitN tells of it. -/
def cutP (p : ByteArray) : List ByteArray := Lib.splitB point 0 (min 9 (p.size + 1) - 1) p
theorem bsz_list (p : ByteArray) : p.data.toList.length = p.size := Array.length_toList
theorem cutP_data (p : ByteArray) : (cutP p).map (·.data.toList) = Lib.splitK [46] 0 (min 9 (p.size + 1) - 1) p.data.toList := Lib.splitB_data point 0 _ p
theorem map_bar (l : List ByteArray) : (l.map (·.data.toList)).map bar = l := by
  rw [List.map_map]
  conv => rhs; rw [← List.map_id l]
  exact List.map_congr_left (fun x _ => bar_of x)
theorem cutP_len (p : ByteArray) : (cutP p).length ≤ min 9 (p.size + 1) := by
  have := Lib.splitB_length_le point 0 (min 9 (p.size + 1) - 1) p
  unfold cutP
  omega
theorem cutP_pos (p : ByteArray) : 1 ≤ (cutP p).length := by
  unfold cutP
  generalize min 9 (p.size + 1) - 1 = k
  cases k with
  | zero => simp [Lib.splitB]
  | succ k => unfold Lib.splitB; split <;> simp
/-- The program's pieces make the path's steps. -/
theorem steps_cut (p : ByteArray) : stepsOf (cutP p) = stepsP p := by
  have hd := cutP_data p
  have hl := cutG_len p.data.toList []
  rw [bsz_list] at hl
  unfold stepsP
  rcases Nat.lt_or_ge 8 (cutG [] p.data.toList).length with h | h
  · rw [splitK_more _ _ (by omega) |> fun e => (show (cutP p).length = 9 from by rw [← List.length_map (f := (·.data.toList)), hd, e]; omega) |> fun e2 => (show stepsOf (cutP p) = none from by unfold stepsOf; rw [if_neg (by omega)])]
    unfold stepsOf
    rw [if_neg (by rw [List.length_map]; omega)]
  · rw [splitK_cut _ _ (by omega)] at hd
    rw [← hd, map_bar]

/-- The document's way, byte by byte. -/
def goS (out : List ByteArray) (cur : List UInt8) : List UInt8 → Option (List ByteArray)
  | [] => if stepB (bar cur) = false ∨ out.length = 8 then none else some (out ++ [bar cur])
  | c :: r => if c = 46 then (if stepB (bar cur) = false ∨ out.length = 8 then none else goS (out ++ [bar cur]) [] r) else goS out (cur ++ [c]) r
theorem stepsOf_bad {a b : List ByteArray} {x : ByteArray} (h : stepB x = false ∨ a.length = 8) : stepsOf (a ++ x :: b) = none := by
  unfold stepsOf
  refine if_neg (fun ⟨h1, h2⟩ => ?_)
  rcases h with h | h
  · rw [List.all_append, List.all_cons, h] at h2; simp at h2
  · simp only [List.length_append, List.length_cons] at h1; omega
theorem goS_steps : ∀ (r : List UInt8) (out : List ByteArray) (cur : List UInt8), out.length ≤ 8 → out.all stepB = true → goS out cur r = stepsOf (out ++ (cutG cur r).map bar)
  | [], out, cur, h1, h2 => by
    rw [goS, cutG]
    split
    · rename_i h; rw [List.map_cons, stepsOf_bad h]
    · rename_i h
      have ha : stepB (bar cur) = true := by
        cases hb : stepB (bar cur) with
        | true => rfl
        | false => exact absurd (.inl hb) h
      have hb : out.length ≠ 8 := fun e => h (.inr e)
      unfold stepsOf
      rw [if_pos ⟨by simp; omega, by simp [h2, ha]⟩]
      rfl
  | c :: r, out, cur, h1, h2 => by
    rw [goS, cutG]
    by_cases hc : c = 46
    · rw [if_pos hc, if_pos hc]
      split
      · rename_i h; rw [List.map_cons, stepsOf_bad h]
      · rename_i h
        have ha : stepB (bar cur) = true := by
          cases hb : stepB (bar cur) with
          | true => rfl
          | false => exact absurd (.inl hb) h
        have hb : out.length ≠ 8 := fun e => h (.inr e)
        rw [goS_steps r _ _ (by simp; omega) (by simp [h2, ha]), List.map_cons, List.append_assoc]
        rfl
    · rw [if_neg hc, if_neg hc, goS_steps r _ _ h1 h2]
theorem steps_ref (p : ByteArray) : goS [] [] p.data.toList = stepsP p := by rw [goS_steps _ _ _ (by simp) rfl]; rfl
theorem stepsOf_is {l r : List ByteArray} (h : stepsOf l = some r) : l = r ∧ r.length ≤ 8 ∧ ∀ x ∈ r, stepB x = true := by
  unfold stepsOf at h
  split at h
  · rename_i hh
    injection h with h
    subst h
    exact ⟨rfl, hh.1, List.all_eq_true.1 hh.2⟩
  · cases h
theorem stepsP_is {p : ByteArray} {r : List ByteArray} (h : stepsP p = some r) : 1 ≤ r.length ∧ r.length ≤ 8 ∧ (∀ x ∈ r, stepB x = true) ∧ r = cutP p := by
  rw [← steps_cut] at h
  obtain ⟨rfl, h1, h2⟩ := stepsOf_is h
  exact ⟨cutP_pos p, h1, h2, rfl⟩
end Go.Proofs.YtckdgmjekfpcjaaDoor

namespace Go.Proofs.YtckdgmjekfpcjaaDoor

/-- A field's value. -/
def findP (nm : ByteArray) : List ByteArray → List PVal → Option PVal
  | a :: r, x :: xs => if a = nm then some x else findP nm r xs
  | _, _ => none
/-- How many names ahead are less. -/
def posP (nm : ByteArray) : List ByteArray → Nat
  | [] => 0
  | a :: r => if scmp a nm < 0 then posP nm r + 1 else 0
theorem posP_le (nm : ByteArray) : ∀ fn, posP nm fn ≤ fn.length
  | [] => Nat.le_refl _
  | a :: r => by
    rw [posP]
    split
    · have := posP_le nm r; simp only [List.length_cons]; omega
    · omega
theorem posP_is (nm : ByteArray) : ∀ (fn : List ByteArray) (i : Nat), i ≤ fn.length → (∀ (t : Nat) a, t < i → fn[t]? = some a → scmp a nm < 0) → (∀ a, fn[i]? = some a → ¬ scmp a nm < 0) → posP nm fn = i
  | [], i, h, _, _ => by simp only [List.length_nil] at h; rw [posP]; omega
  | a :: r, 0, _, _, h2 => by rw [posP, if_neg (h2 a rfl)]
  | a :: r, i + 1, h, h1, h2 => by
    rw [posP, if_pos (h1 0 a (by omega) rfl), posP_is nm r i (by simpa using h) (fun t b ht hb => h1 (t + 1) b (by omega) (by simpa using hb)) (fun b hb => h2 b (by simpa using hb))]
theorem posP_less (nm : ByteArray) : ∀ (fn : List ByteArray) (t : Nat) a, t < posP nm fn → fn[t]? = some a → scmp a nm < 0
  | [], t, a, h, _ => by rw [posP] at h; omega
  | b :: r, t, a, h, ha => by
    rw [posP] at h
    split at h
    · rename_i hb
      cases t with
      | zero => obtain rfl : b = a := by simpa using ha
                exact hb
      | succ t => exact posP_less nm r t a (by omega) (by simpa using ha)
    · omega
theorem posP_not (nm : ByteArray) : ∀ (fn : List ByteArray) a, fn[posP nm fn]? = some a → ¬ scmp a nm < 0
  | [], a, h => by simp at h
  | b :: r, a, h => by
    rw [posP] at h
    split at h
    · exact posP_not nm r a (by simpa using h)
    · rename_i hb
      obtain rfl : b = a := by simpa using h
      exact hb

/-- Names that rise, by their order. -/
def Up (fn : List ByteArray) : Prop := fn.Pairwise (fun a b => scmp a b < 0)
theorem up_of : ∀ {fn : List ByteArray}, rising fn = true → Up fn
  | [], _ => List.Pairwise.nil
  | [a], _ => by simp [Up]
  | a :: b :: r, h => by
    rw [rising, Bool.and_eq_true] at h
    have ih := up_of h.2
    have hab : scmp a b < 0 := by rw [scmp_less, if_pos h.1]; omega
    refine List.Pairwise.cons (fun x hx => ?_) ih
    rcases List.mem_cons.1 hx with rfl | hx
    · exact hab
    · have hbx := (List.pairwise_cons.1 ih).1 x hx
      exact (scmp_trans (Int.le_of_lt hab) (Int.le_of_lt hbx)).2.1 hab
theorem rising_of : ∀ {fn : List ByteArray}, Up fn → rising fn = true
  | [], _ => rfl
  | [a], _ => rfl
  | a :: b :: r, h => by
    have h' := List.pairwise_cons.1 h
    rw [rising, rising_of h'.2, Bool.and_true]
    have hab := h'.1 b (by simp)
    rw [scmp_less] at hab
    split at hab
    · assumption
    · split at hab <;> omega
theorem scmp_self (a : ByteArray) : scmp a a = 0 := scmp_zero.2 rfl

/-- Among names that rise a name is at its place or nowhere. -/
theorem find_pos (nm : ByteArray) : ∀ (fn : List ByteArray) (fv : List PVal), Up fn → findP nm fn fv = if fn[posP nm fn]? = some nm then fv[posP nm fn]? else none
  | [], fv, _ => by simp [findP]
  | a :: r, [], h => by simp [findP]
  | a :: r, x :: xs, h => by
    have h' := List.pairwise_cons.1 h
    rw [findP, posP]
    by_cases e : a = nm
    · subst e
      have hs : ¬ scmp a a < 0 := by rw [scmp_self]; omega
      rw [if_pos rfl, if_neg hs]
      simp
    · rw [if_neg e]
      by_cases hl : scmp a nm < 0
      · rw [if_pos hl, find_pos nm r xs h'.2]
        simp
      · rw [if_neg hl, find_pos nm r xs h'.2]
        have h2 : ¬ r[posP nm r]? = some nm := fun hr => by
          have := h'.1 nm (List.mem_of_getElem? hr)
          omega
        rw [if_neg h2]
        simp [e]

/-- The value to which a step leads. -/
def leads (v : PVal) (s : ByteArray) : Option PVal :=
  match place s with
  | some n => if v.k = 5 then v.l[n]? else none
  | none => if v.k = 6 then findP s v.fn v.fv else none
def getP : PVal → List ByteArray → Option PVal
  | v, [] => some v
  | v, s :: r => match leads v s with
    | some x => getP x r
    | none => none

def zeroP : PVal := .mk 0 0 ByteArray.empty [] [] []
def docE : PVal := .mk 6 0 ByteArray.empty [] [] []
def docL (fn : List ByteArray) (fv : List PVal) : PVal := .mk 6 0 ByteArray.empty [] fn fv
def insA {α : Type} (l : List α) (i : Nat) (x : α) : List α := l.take i ++ x :: l.drop i

/-- What a change tells: a value; taken out?; the error. -/
structure Chg where
  v : PVal
  gone : Bool
  e : Int
/-- A value with a change at the end of steps: a List's part, a Doc's field. -/
def atL (v : PVal) (n : Nat) (q : Chg) : Chg := ⟨listV (if q.gone = true then v.l.eraseIdx n else v.l.set n q.v), false, q.e⟩
def atF (v : PVal) (s : ByteArray) (q : Chg) : Chg :=
  let i := posP s v.fn
  if v.fn[i]? = some s then ⟨docL (if q.gone = true then v.fn.eraseIdx i else v.fn) (if q.gone = true then v.fv.eraseIdx i else v.fv.set i q.v), false, q.e⟩
  else ⟨docL (if q.gone = true then v.fn else insA v.fn i s) (if q.gone = true then v.fv else insA v.fv i q.v), false, q.e⟩
def atP (tf : PVal → Chg) (lays : Bool) : PVal → List ByteArray → Chg
  | v, [] => tf v
  | v, s :: r =>
    match place s with
    | some n => if v.k ≠ 5 then ⟨zeroP, false, 7⟩ else match v.l[n]? with
      | none => ⟨zeroP, false, 8⟩
      | some y => atL v n (atP tf lays y r)
    | none => if v.k ≠ 6 then ⟨zeroP, false, 7⟩ else
      match findP s v.fn v.fv with
      | some y => atF v s (atP tf lays y r)
      | none => if lays = false then ⟨zeroP, false, 8⟩ else atF v s (atP tf lays docE r)

/-- What becomes of a value. -/
def toldP (q : Chg) : PVal × Int := if q.e ≠ 0 then (zeroP, q.e) else if q.v.good ≠ 0 then (zeroP, q.v.good) else (q.v, 0)
/-- The errors of what is handed in. -/
def askP (v : PVal) (p : ByteArray) (also : List PVal) : Int :=
  if v.good ≠ 0 then v.good else if stepsP p = none then 14 else (also.find? (fun x => x.good != 0)).elim 0 PVal.good
def doneP (tf : PVal → Chg) (lays : Bool) (v : PVal) (p : ByteArray) (also : List PVal) : PVal × Int :=
  if askP v p also ≠ 0 then (zeroP, askP v p also) else toldP (atP tf lays v ((stepsP p).getD []))
def toSet (x : PVal) (_ : PVal) : Chg := ⟨x, false, 0⟩
def toGone (_ : PVal) : Chg := ⟨zeroP, true, 0⟩
def toPush (x y : PVal) : Chg := if y.k ≠ 5 then ⟨zeroP, false, 7⟩ else ⟨listV (y.l ++ [x]), false, 0⟩
def sumP (a n : Int) : Int := IntKind.i64.wrap (a + n)
def toAdd (n : Int) (y : PVal) : Chg := if y.k ≠ 3 then ⟨zeroP, false, 7⟩ else if y.n + n < -9223372036854775808 ∨ 9223372036854775807 < y.n + n then ⟨zeroP, false, 12⟩ else ⟨intV (y.n + n), false, 0⟩
def gotP (v : PVal) (p : ByteArray) : Option PVal := if v.good ≠ 0 then none else (stepsP p).bind (getP v)
def setP (v : PVal) (p : ByteArray) (x : PVal) : PVal × Int := doneP (toSet x) true v p [x]
def unsetP (v : PVal) (p : ByteArray) : PVal × Int :=
  if askP v p [] ≠ 0 then (zeroP, askP v p []) else if gotP v p = none then (v, 0) else doneP toGone false v p []
def thereP (tf : PVal → Chg) (v : PVal) (p : ByteArray) (also : List PVal) : PVal × Int :=
  let r := doneP tf false v p also
  if r.2 = 0 then r else if askP v p also ≠ 0 then (zeroP, r.2) else if gotP v p = none then (zeroP, 8) else (zeroP, r.2)
def pushP (v : PVal) (p : ByteArray) (x : PVal) : PVal × Int := thereP (toPush x) v p [x]
def addP (v : PVal) (p : ByteArray) (n : Int) : PVal × Int := thereP (toAdd n) v p []
end Go.Proofs.YtckdgmjekfpcjaaDoor
