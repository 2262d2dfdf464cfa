/-
  Plain: the order of good values: the other way round, over a third one, 0 just of the same.
-/
import Derived.Test.YtdjegpmjhfbamaaDoorVal10
namespace Go.Proofs.YtdjegpmjhfbamaaDoor
open Go.RowKit Go.Proofs

theorem icmp_anti (x y : Int) : icmp y x = - icmp x y := by unfold icmp; split <;> split <;> (try split) <;> omega
theorem icmp_zero {x y : Int} : icmp x y = 0 ↔ x = y := by unfold icmp; split <;> (try split) <;> omega
theorem icmp_trans {x y z : Int} (h : icmp x y ≤ 0) (k : icmp y z ≤ 0) : icmp x z ≤ 0 ∧ (icmp x y < 0 → icmp x z < 0) ∧ (icmp y z < 0 → icmp x z < 0) := by
  unfold icmp at *; repeat' split at *
  all_goals omega
theorem icmp_range (x y : Int) : icmp x y = -1 ∨ icmp x y = 0 ∨ icmp x y = 1 := by unfold icmp; split <;> (try split) <;> omega

theorem bytes_anti : ∀ a b, Lib.compareBytes b a = - Lib.compareBytes a b
  | [], [] => rfl
  | [], _ :: _ => rfl
  | _ :: _, [] => rfl
  | a :: ar, b :: br => by
    rw [Lib.compareBytes, Lib.compareBytes]
    by_cases h : a < b
    · have h' : ¬ b < a := fun k => UInt8.lt_irrefl _ (UInt8.lt_trans h k)
      simp [h, h']
    · by_cases h' : b < a
      · simp [h, h']
      · simp [h, h', bytes_anti ar br]
theorem bytes_zero : ∀ a b, Lib.compareBytes a b = 0 ↔ a = b
  | [], [] => by simp [Lib.compareBytes]
  | [], _ :: _ => by simp [Lib.compareBytes]
  | _ :: _, [] => by simp [Lib.compareBytes]
  | a :: ar, b :: br => by
    rw [Lib.compareBytes]
    by_cases h : a < b
    · have : a ≠ b := fun e => UInt8.lt_irrefl b (e ▸ h)
      simp [h, this]
    · by_cases h' : b < a
      · have : a ≠ b := fun e => UInt8.lt_irrefl b (by rw [e] at h'; exact h')
        simp [h, h', this]
      · have : a = b := by
          rw [UInt8.lt_iff_toNat_lt] at h h'
          exact UInt8.toNat_inj.1 (by omega)
        simp [this, bytes_zero ar br, UInt8.lt_irrefl]
theorem bytes_trans : ∀ a b c, Lib.compareBytes a b ≤ 0 → Lib.compareBytes b c ≤ 0 → Lib.compareBytes a c ≤ 0 ∧ (Lib.compareBytes a b < 0 → Lib.compareBytes a c < 0) ∧ (Lib.compareBytes b c < 0 → Lib.compareBytes a c < 0)
  | [], [], [], _, _ => by simp [Lib.compareBytes]
  | [], [], _ :: _, _, _ => by simp [Lib.compareBytes]
  | [], _ :: _, [], _, k => by simp [Lib.compareBytes] at k
  | [], _ :: _, _ :: _, _, _ => by simp [Lib.compareBytes]
  | _ :: _, [], _, h, _ => by simp [Lib.compareBytes] at h
  | _ :: _, _ :: _, [], _, k => by simp [Lib.compareBytes] at k
  | a :: ar, b :: br, c :: cr, h, k => by
    have ih := bytes_trans ar br cr
    simp only [Lib.compareBytes, UInt8.lt_iff_toNat_lt] at h k ⊢
    by_cases h1 : a.toNat < b.toNat
    · by_cases k1 : b.toNat < c.toNat
      · simp [show a.toNat < c.toNat by omega]
      · by_cases k2 : c.toNat < b.toNat
        · simp [k1, k2] at k
        · simp [show a.toNat < c.toNat by omega]
    · by_cases h2 : b.toNat < a.toNat
      · simp [h1, h2] at h
      · by_cases k1 : b.toNat < c.toNat
        · simp [show a.toNat < c.toNat by omega]
        · by_cases k2 : c.toNat < b.toNat
          · simp [k1, k2] at k
          · simp [h1, h2] at h
            simp [k1, k2] at k
            simp [h1, h2, k1, k2, show ¬ a.toNat < c.toNat by omega, show ¬ c.toNat < a.toNat by omega]
            exact ih h k
theorem scmp_anti (a b : ByteArray) : scmp b a = - scmp a b := bytes_anti _ _
theorem scmp_zero {a b : ByteArray} : scmp a b = 0 ↔ a = b := by
  unfold scmp; rw [bytes_zero]
  exact ⟨fun h => Go.WideShapes.bytes_inj h, fun h => by rw [h]⟩
theorem scmp_trans {a b c : ByteArray} (h : scmp a b ≤ 0) (k : scmp b c ≤ 0) : scmp a c ≤ 0 ∧ (scmp a b < 0 → scmp a c < 0) ∧ (scmp b c < 0 → scmp a c < 0) := bytes_trans _ _ _ h k

def lex (x y : Int) : Int := if x ≠ 0 then x else y
theorem lex_neg (x y : Int) : lex (-x) (-y) = - lex x y := by unfold lex; split <;> split <;> omega
theorem lex_zero {x y : Int} : lex x y = 0 ↔ x = 0 ∧ y = 0 := by unfold lex; split <;> omega
theorem lex_zero_left (y : Int) : lex 0 y = y := by simp [lex]
theorem lex_zero_right (x : Int) : lex x 0 = x := by unfold lex; split <;> omega
theorem lex_assoc (x y z : Int) : lex (lex x y) z = lex x (lex y z) := by
  unfold lex
  by_cases h : x = 0 <;> by_cases h' : y = 0 <;> simp [h, h']
/-- Three comparisons fit: an order. -/
def Fit (x y z : Int) : Prop := x ≤ 0 → y ≤ 0 → z ≤ 0 ∧ (x < 0 → z < 0) ∧ (y < 0 → z < 0)
theorem lex_nz {x : Int} (h : x ≠ 0) (y : Int) : lex x y = x := by simp [lex, h]
theorem Fit.lex {x y z x' y' z' : Int} (h : Fit x y z) (k : x = 0 → y = 0 → Fit x' y' z') : Fit (lex x x') (lex y y') (lex z z') := by
  intro h1 h2
  have hx : x ≤ 0 := by
    by_cases e : x = 0
    · omega
    · rw [lex_nz e] at h1; exact h1
  have hy : y ≤ 0 := by
    by_cases e : y = 0
    · omega
    · rw [lex_nz e] at h2; exact h2
  obtain ⟨a, b, c⟩ := h hx hy
  by_cases ez : z = 0
  · have ex : x = 0 := by omega
    have ey : y = 0 := by omega
    rw [ex, lex_zero_left] at h1
    rw [ey, lex_zero_left] at h2
    rw [ex, ey, ez, lex_zero_left, lex_zero_left, lex_zero_left]
    exact k ex ey h1 h2
  · rw [lex_nz ez]
    omega
theorem fit_icmp (x y z : Int) : Fit (icmp x y) (icmp y z) (icmp x z) := icmp_trans
theorem fit_scmp (a b c : ByteArray) : Fit (scmp a b) (scmp b c) (scmp a c) := scmp_trans
theorem fit_zero : Fit 0 0 0 := by simp [Fit]

theorem cmpV_lex (k n : Int) (s : ByteArray) (l : List PVal) (fn : List ByteArray) (fv : List PVal) (k' n' : Int) (s' : ByteArray) (l' : List PVal) (fn' : List ByteArray) (fv' : List PVal) :
    cmpV (.mk k n s l fn fv) (.mk k' n' s' l' fn' fv') = lex (icmp k k') (lex (cmpL l l') (lex (cmpF fn fv fn' fv') (lex (icmp n n') (lex (scmp s s') (lex (icmp l.length l'.length) (icmp fv.length fv'.length)))))) := by
  rw [cmpV]
  simp only [lex, orI]
  repeat' split
  all_goals first | rfl | omega
theorem cmpL_cons (x y : PVal) (r r' : List PVal) : cmpL (x :: r) (y :: r') = lex (cmpV x y) (cmpL r r') := by rw [cmpL]; rfl
theorem cmpF_cons (a b : ByteArray) (ar br : List ByteArray) (x y : PVal) (r r' : List PVal) : cmpF (a :: ar) (x :: r) (b :: br) (y :: r') = lex (lex (scmp a b) (cmpV x y)) (cmpF ar r br r') := by
  rw [cmpF]
  simp only [lex, orI]
  repeat' split
  all_goals first | rfl | omega
theorem cmpL_nil (l : List PVal) : cmpL [] l = 0 ∧ cmpL l [] = 0 := by cases l <;> simp [cmpL]
theorem cmpF_nil (fn fn' : List ByteArray) (l : List PVal) : cmpF fn [] fn' l = 0 ∧ cmpF fn l fn' [] = 0 ∧ cmpF [] l fn' l = 0 := by cases fn <;> cases fn' <;> cases l <;> simp [cmpF]

theorem cmpV_anti (V : PVal) : ∀ V', cmpV V' V = - cmpV V V' := by
  refine PVal.ind (M := fun V => ∀ V', cmpV V' V = - cmpV V V') ?_ V
  intro k n s l fn fv hl hf V'
  obtain ⟨k', n', s', l', fn', fv'⟩ := V'
  have hL : ∀ l l' : List PVal, (∀ x ∈ l, ∀ y, cmpV y x = - cmpV x y) → cmpL l' l = - cmpL l l' := by
    intro l
    induction l with
    | nil => intro l' _; rw [(cmpL_nil l').1, (cmpL_nil l').2]; rfl
    | cons x r ih =>
      intro l' h
      cases l' with
      | nil => rw [(cmpL_nil _).1, (cmpL_nil _).2]; rfl
      | cons y r' => rw [cmpL_cons, cmpL_cons, h x (by simp), ih r' (fun z hz => h z (by simp [hz])), lex_neg]
  have hF : ∀ (fv : List PVal) (fn fn' : List ByteArray) (fv' : List PVal), (∀ x ∈ fv, ∀ y, cmpV y x = - cmpV x y) → cmpF fn' fv' fn fv = - cmpF fn fv fn' fv' := by
    intro fv
    induction fv with
    | nil => intro fn fn' fv' _; rw [(cmpF_nil fn fn' fv').1, (cmpF_nil fn' fn fv').2.1]; rfl
    | cons x r ih =>
      intro fn fn' fv' h
      match fn, fn', fv' with
      | [], [], [] => simp [cmpF]
      | [], _ :: _, [] => simp [cmpF]
      | _ :: _, [], [] => simp [cmpF]
      | _ :: _, _ :: _, [] => simp [cmpF]
      | [], [], _ :: _ => simp [cmpF]
      | [], _ :: _, _ :: _ => simp [cmpF]
      | _ :: _, [], _ :: _ => simp [cmpF]
      | a :: ar, b :: br, y :: r' => rw [cmpF_cons, cmpF_cons, h x (by simp), ih ar br r' (fun z hz => h z (by simp [hz])), scmp_anti a b, lex_neg, lex_neg]
  rw [cmpV_lex, cmpV_lex, hL l l' hl, hF fv fn fn' fv' hf, icmp_anti k k', icmp_anti n n', scmp_anti s s', icmp_anti (l.length : Int) l'.length, icmp_anti (fv.length : Int) fv'.length]
  simp only [lex_neg]

theorem cmpV_same (V : PVal) : cmpV V V = 0 := by have := cmpV_anti V V; omega
theorem cmpV_zero (V : PVal) : V.fits → ∀ V', V'.fits → cmpV V V' = 0 → V = V' := by
  refine PVal.ind (M := fun V => V.fits → ∀ V', V'.fits → cmpV V V' = 0 → V = V') ?_ V
  intro k n s l fn fv hl hf hfit V' hfit' h
  obtain ⟨k', n', s', l', fn', fv'⟩ := V'
  simp only [PVal.fits, fitsL_iff] at hfit hfit'
  rw [cmpV_lex] at h
  simp only [lex_zero, icmp_zero, scmp_zero] at h
  obtain ⟨rfl, h1, h2, rfl, rfl, h3, h4⟩ := h
  have hL : ∀ l l' : List PVal, (∀ x ∈ l, x.fits → ∀ y, y.fits → cmpV x y = 0 → x = y) → (∀ x ∈ l, x.fits) → (∀ x ∈ l', x.fits) → l.length = l'.length → cmpL l l' = 0 → l = l' := by
    intro l
    induction l with
    | nil => intro l' _ _ _ e _; cases l' with
      | nil => rfl
      | cons => simp at e
    | cons x r ih =>
      intro l' h hf hf' e hc
      cases l' with
      | nil => simp at e
      | cons y r' =>
        rw [cmpL_cons, lex_zero] at hc
        rw [h x (by simp) (hf x (by simp)) y (hf' y (by simp)) hc.1, ih r' (fun z hz => h z (by simp [hz])) (fun z hz => hf z (by simp [hz])) (fun z hz => hf' z (by simp [hz])) (by simpa using e) hc.2]
  have hF : ∀ (fv : List PVal) (fn fn' : List ByteArray) (fv' : List PVal), (∀ x ∈ fv, x.fits → ∀ y, y.fits → cmpV x y = 0 → x = y) → (∀ x ∈ fv, x.fits) → (∀ x ∈ fv', x.fits) → fn.length = fv.length → fn'.length = fv'.length → fv.length = fv'.length →
      cmpF fn fv fn' fv' = 0 → fn = fn' ∧ fv = fv' := by
    intro fv
    induction fv with
    | nil =>
      intro fn fn' fv' _ _ _ e1 e2 e _
      have z1 : fv' = [] := List.eq_nil_of_length_eq_zero (by simpa using e.symm)
      subst z1
      have z2 : fn = [] := List.eq_nil_of_length_eq_zero (by simpa using e1)
      have z3 : fn' = [] := List.eq_nil_of_length_eq_zero (by simpa using e2)
      exact ⟨by rw [z2, z3], rfl⟩
    | cons x r ih =>
      intro fn fn' fv' h hf hf' e1 e2 e hc
      match fn, fn', fv', e1, e2, e, hc with
      | [], _, _, e1, _, _, _ => simp at e1
      | _ :: _, _, [], _, _, e, _ => simp at e
      | _ :: _, [], _ :: _, _, e2, _, _ => simp at e2
      | a :: ar, b :: br, y :: r', e1, e2, e, hc =>
        rw [cmpF_cons, lex_zero, lex_zero, scmp_zero] at hc
        obtain ⟨⟨rfl, h2⟩, h3⟩ := hc
        obtain ⟨i1, i2⟩ := ih ar br r' (fun z hz => h z (by simp [hz])) (fun z hz => hf z (by simp [hz])) (fun z hz => hf' z (by simp [hz])) (by simpa using e1) (by simpa using e2) (by simpa using e) h3
        rw [i1, i2, h x (by simp) (hf x (by simp)) y (hf' y (by simp)) h2]
        exact ⟨rfl, rfl⟩
  obtain ⟨i1, i2⟩ := hF fv fn fn' fv' hf hfit.2.2.2.2.2.2.2.2 hfit'.2.2.2.2.2.2.2.2 hfit.2.2.2.2.1 hfit'.2.2.2.2.1 (by omega) h2
  rw [hL l l' hl hfit.2.2.2.2.2.2.2.1 hfit'.2.2.2.2.2.2.2.1 (by omega) h1, i1, i2]

theorem icmp_succ (n m : Nat) : icmp ((n + 1 : Nat) : Int) ((m + 1 : Nat) : Int) = icmp n m := by unfold icmp; split <;> split <;> (try split) <;> (try split) <;> omega
theorem icmp_lt {x y : Int} (h : x < y) : icmp x y = -1 := by simp [icmp, h]
theorem icmp_gt {x y : Int} (h : y < x) : icmp x y = 1 := by unfold icmp; rw [if_neg (by omega), if_pos h]
theorem fit_pos {x y z : Int} (h : 0 < x ∨ 0 < y) : Fit x y z := fun _ _ => by omega
theorem fit_neg {x y z : Int} (h : z < 0) : Fit x y z := fun _ _ => by omega

theorem fit_list : ∀ (l l' l'' : List PVal), (∀ x ∈ l, ∀ y ∈ l', ∀ z ∈ l'', Fit (cmpV x y) (cmpV y z) (cmpV x z)) →
    Fit (lex (cmpL l l') (icmp l.length l'.length)) (lex (cmpL l' l'') (icmp l'.length l''.length)) (lex (cmpL l l'') (icmp l.length l''.length))
  | [], [], [], _ => by simp [cmpL, lex, icmp, Fit]
  | [], _, z :: r'', _ => fit_neg (by rw [(cmpL_nil _).1, lex_zero_left, icmp_lt (by simp)]; decide)
  | [], y :: r', [], _ => fit_pos (.inr (by rw [(cmpL_nil _).2, lex_zero_left, icmp_gt (by simp)]; decide))
  | x :: r, [], _, _ => fit_pos (.inl (by rw [(cmpL_nil _).2, lex_zero_left, icmp_gt (by simp)]; decide))
  | x :: r, y :: r', [], _ => fit_pos (.inr (by rw [(cmpL_nil _).2, lex_zero_left, icmp_gt (by simp)]; decide))
  | x :: r, y :: r', z :: r'', h => by
    rw [cmpL_cons, cmpL_cons, cmpL_cons, lex_assoc, lex_assoc, lex_assoc, List.length_cons, List.length_cons, List.length_cons, icmp_succ, icmp_succ, icmp_succ]
    exact Fit.lex (h x (by simp) y (by simp) z (by simp)) (fun _ _ => fit_list r r' r'' (fun a ha b hb c hc => h a (by simp [ha]) b (by simp [hb]) c (by simp [hc])))
theorem fit_fields : ∀ (l l' l'' : List PVal) (fn fn' fn'' : List ByteArray), fn.length = l.length → fn'.length = l'.length → fn''.length = l''.length → (∀ x ∈ l, ∀ y ∈ l', ∀ z ∈ l'', Fit (cmpV x y) (cmpV y z) (cmpV x z)) →
    Fit (lex (cmpF fn l fn' l') (icmp l.length l'.length)) (lex (cmpF fn' l' fn'' l'') (icmp l'.length l''.length)) (lex (cmpF fn l fn'' l'') (icmp l.length l''.length))
  | [], [], [], _, _, _, _, _, _, _ => by simp [cmpF_nil, lex, icmp, Fit]
  | [], _, z :: r'', _, _, _, _, _, _, _ => fit_neg (by rw [(cmpF_nil _ _ _).1, lex_zero_left, icmp_lt (by simp)]; decide)
  | [], y :: r', [], _, _, _, _, _, _, _ => fit_pos (.inr (by rw [(cmpF_nil _ _ _).2.1, lex_zero_left, icmp_gt (by simp)]; decide))
  | x :: r, [], _, _, _, _, _, _, _, _ => fit_pos (.inl (by rw [(cmpF_nil _ _ _).2.1, lex_zero_left, icmp_gt (by simp)]; decide))
  | x :: r, y :: r', [], _, _, _, _, _, _, _ => fit_pos (.inr (by rw [(cmpF_nil _ _ _).2.1, lex_zero_left, icmp_gt (by simp)]; decide))
  | x :: r, y :: r', z :: r'', [], _, _, e, _, _, _ => by simp at e
  | x :: r, y :: r', z :: r'', _ :: _, [], _, _, e, _, _ => by simp at e
  | x :: r, y :: r', z :: r'', _ :: _, _ :: _, [], _, _, e, _ => by simp at e
  | x :: r, y :: r', z :: r'', a :: ar, b :: br, c :: cr, e1, e2, e3, h => by
    rw [cmpF_cons, cmpF_cons, cmpF_cons, lex_assoc _ (cmpF ar r br r'), lex_assoc _ (cmpF br r' cr r''), lex_assoc _ (cmpF ar r cr r''), List.length_cons, List.length_cons, List.length_cons, icmp_succ, icmp_succ, icmp_succ]
    exact Fit.lex (Fit.lex (fit_scmp a b c) (fun _ _ => h x (by simp) y (by simp) z (by simp)))
      (fun _ _ => fit_fields r r' r'' ar br cr (by simpa using e1) (by simpa using e2) (by simpa using e3) (fun a ha b hb c hc => h a (by simp [ha]) b (by simp [hb]) c (by simp [hc])))

/-- What a formed value has. -/
theorem formed_has {k n : Int} {s : ByteArray} {l : List PVal} {fn : List ByteArray} {fv : List PVal} (h : formedB (.mk k n s l fn fv) = true) :
    (k ≠ 2 → k ≠ 3 → n = 0) ∧ (k ≠ 4 → s = ByteArray.empty) ∧ (k ≠ 5 → l = []) ∧ (k ≠ 6 → fv = []) := by
  simp only [formedB, Bool.and_eq_true, decide_eq_true_eq] at h
  obtain ⟨⟨⟨⟨⟨⟨_, _⟩, h1⟩, h2⟩, h3⟩, h4⟩, _⟩ := h
  refine ⟨h1, fun hk => ?_, fun hk => List.eq_nil_of_length_eq_zero (h3 hk), fun hk => List.eq_nil_of_length_eq_zero (h4 hk)⟩
  have := h2 hk
  rw [ByteArray.toList_eq] at this
  exact Go.WideShapes.bytes_inj this

theorem fit_V (a : PVal) : a.fits → a.all formedB = true → ∀ b c : PVal, b.fits → b.all formedB = true → c.fits → c.all formedB = true → Fit (cmpV a b) (cmpV b c) (cmpV a c) := by
  refine PVal.ind (M := fun a => a.fits → a.all formedB = true → ∀ b c : PVal, b.fits → b.all formedB = true → c.fits → c.all formedB = true → Fit (cmpV a b) (cmpV b c) (cmpV a c)) ?_ a
  intro k n s l fn fv hl hf hfit hall b c hb hab hc hac
  obtain ⟨k', n', s', l', fn', fv'⟩ := b
  obtain ⟨k'', n'', s'', l'', fn'', fv''⟩ := c
  simp only [PVal.fits, fitsL_iff] at hfit hb hc
  rw [all_parts, Bool.and_eq_true] at hall hab hac
  obtain ⟨a1, a2, a3, a4⟩ := formed_has hall.1
  obtain ⟨b1, b2, b3, b4⟩ := formed_has hab.1
  obtain ⟨c1, c2, c3, c4⟩ := formed_has hac.1
  have ha' := List.all_eq_true.1 hall.2
  have hb' := List.all_eq_true.1 hab.2
  have hc' := List.all_eq_true.1 hac.2
  rw [cmpV_lex, cmpV_lex, cmpV_lex]
  refine Fit.lex (fit_icmp k k' k'') (fun e1 e2 => ?_)
  obtain rfl := icmp_zero.1 e1
  obtain rfl := icmp_zero.1 e2
  by_cases h5 : k = 5
  · subst h5
    have f1 := a4 (by decide); have f2 := b4 (by decide); have f3 := c4 (by decide)
    subst f1 f2 f3
    rw [(cmpF_nil _ _ _).1, (cmpF_nil _ _ _).1, (cmpF_nil _ _ _).1, a1 (by decide) (by decide), b1 (by decide) (by decide), c1 (by decide) (by decide), a2 (by decide), b2 (by decide), c2 (by decide)]
    simp only [icmp_zero.2, scmp_zero.2, lex_zero_left, lex_zero_right]
    simp only [PVal.parts] at ha' hb' hc'
    exact fit_list l l' l'' (fun x hx y hy z hz => hl x hx (hfit.2.2.2.2.2.2.2.1 x hx) (ha' x hx) y z (hb.2.2.2.2.2.2.2.1 y hy) (hb' y hy) (hc.2.2.2.2.2.2.2.1 z hz) (hc' z hz))
  by_cases h6 : k = 6
  · subst h6
    have f1 := a3 (by decide); have f2 := b3 (by decide); have f3 := c3 (by decide)
    subst f1 f2 f3
    rw [(cmpL_nil _).1, a1 (by decide) (by decide), b1 (by decide) (by decide), c1 (by decide) (by decide), a2 (by decide), b2 (by decide), c2 (by decide)]
    simp only [icmp_zero.2, scmp_zero.2, lex_zero_left]
    simp only [PVal.parts] at ha' hb' hc'
    exact fit_fields fv fv' fv'' fn fn' fn'' hfit.2.2.2.2.1 hb.2.2.2.2.1 hc.2.2.2.2.1 (fun x hx y hy z hz => hf x hx (hfit.2.2.2.2.2.2.2.2 x hx) (ha' x hx) y z (hb.2.2.2.2.2.2.2.2 y hy) (hb' y hy) (hc.2.2.2.2.2.2.2.2 z hz) (hc' z hz))
  · have f1 := a3 h5; have f2 := b3 h5; have f3 := c3 h5
    have g1 := a4 h6; have g2 := b4 h6; have g3 := c4 h6
    subst f1 f2 f3 g1 g2 g3
    rw [(cmpL_nil _).1, (cmpF_nil _ _ _).1, (cmpF_nil _ _ _).1, (cmpF_nil _ _ _).1]
    simp only [icmp_zero.2, lex_zero_left, lex_zero_right]
    exact Fit.lex (fit_icmp n n' n'') (fun _ _ => fit_scmp s s' s'')
end Go.Proofs.YtdjegpmjhfbamaaDoor
