/-
  Plain: what Go's stable sort leaves: pieces turned, merged, laid in. No condition.
  Plain: one step of Go's symMerge: what was cut, turned and merged by halves is sorted. No condition.
  Plain: ranges exchanged, pieces turned by exchanges, one element merged in (Go's stable sort). No condition.
-/
import Derived.Test.YtckdgmjekfpcjaaDoorMgPlain
import Derived.Sort.LotA
namespace Go.Proofs.YtckdgmjekfpcjaaDoor
section
variable {α : Type} {le : α → α → Prop}

/-- Two sorted rows, each cut in two: what lies ahead of the cuts is no greater than what lies behind them. -/
theorem cut_le (ht : ∀ x y z, le x y → le y z → le x z) {X1 X2 Y1 Y2 : List α} (hX : (X1 ++ X2).Pairwise le) (hY : (Y1 ++ Y2).Pairwise le)
    (h1 : ∀ x y, X1.getLast? = some x → Y2.head? = some y → le x y) (h2 : ∀ y x, Y1.getLast? = some y → X2.head? = some x → le y x) : ∀ u ∈ X1 ++ Y1, ∀ v ∈ X2 ++ Y2, le u v := by
  obtain ⟨hX1, hX2, hX3⟩ := List.pairwise_append.1 hX
  obtain ⟨hY1, hY2, hY3⟩ := List.pairwise_append.1 hY
  have last : ∀ {l : List α}, l.Pairwise le → ∀ u ∈ l, ∃ z, l.getLast? = some z ∧ (u = z ∨ le u z) := by
    intro l hl u hu
    rcases List.eq_nil_or_concat l with rfl | ⟨r, z, rfl⟩
    · cases hu
    · refine ⟨z, by simp, ?_⟩
      rw [List.concat_eq_append] at hu hl
      rcases List.mem_append.1 hu with h | h
      · exact .inr ((List.pairwise_append.1 hl).2.2 u h z (by simp))
      · exact .inl (by simpa using h)
  have first : ∀ {l : List α}, l.Pairwise le → ∀ u ∈ l, ∃ z, l.head? = some z ∧ (u = z ∨ le z u) := by
    intro l hl u hu
    cases l with
    | nil => cases hu
    | cons z r =>
      refine ⟨z, rfl, ?_⟩
      rcases List.mem_cons.1 hu with h | h
      · exact .inl h
      · exact .inr ((List.pairwise_cons.1 hl).1 u h)
  have cross : ∀ {P Q : List α}, P.Pairwise le → Q.Pairwise le → (∀ x y, P.getLast? = some x → Q.head? = some y → le x y) → ∀ u ∈ P, ∀ v ∈ Q, le u v := by
    intro P Q hP hQ h u hu v hv
    obtain ⟨x, hx, hux⟩ := last hP u hu
    obtain ⟨y, hy, hyv⟩ := first hQ v hv
    have hxy := h x y hx hy
    rcases hux with rfl | hux
    · rcases hyv with rfl | hyv
      · exact hxy
      · exact ht _ _ _ hxy hyv
    · rcases hyv with rfl | hyv
      · exact ht _ _ _ hux hxy
      · exact ht _ _ _ hux (ht _ _ _ hxy hyv)
  intro u hu v hv
  rcases List.mem_append.1 hu with hu | hu <;> rcases List.mem_append.1 hv with hv | hv
  · exact hX3 u hu v hv
  · exact cross hX1 hY2 h1 u hu v hv
  · exact cross hY1 hX2 h2 u hu v hv
  · exact hY3 u hu v hv
/-- .. and so each half merged by itself makes the whole. -/
theorem cut_join {X1 X2 Y1 Y2 Z1 Z2 : List α} (hc : ∀ u ∈ X1 ++ Y1, ∀ v ∈ X2 ++ Y2, le u v) (p1 : Z1.Perm (X1 ++ Y1)) (p2 : Z2.Perm (X2 ++ Y2)) (s1 : Z1.Pairwise le) (s2 : Z2.Pairwise le) :
    (Z1 ++ Z2).Pairwise le ∧ (Z1 ++ Z2).Perm ((X1 ++ X2) ++ (Y1 ++ Y2)) := by
  refine ⟨List.pairwise_append.2 ⟨s1, s2, fun u hu v hv => hc u (p1.mem_iff.1 hu) v (p2.mem_iff.1 hv)⟩, (p1.append p2).trans ?_⟩
  rw [List.append_assoc, List.append_assoc]
  refine List.Perm.append_left X1 ?_
  rw [← List.append_assoc, ← List.append_assoc]
  exact List.Perm.append_right Y2 List.perm_append_comm
/-- An element laid in. -/
theorem lay_in {P Q : List α} {x : α} (h : (P ++ Q).Pairwise le) (h1 : ∀ u ∈ P, le u x) (h2 : ∀ v ∈ Q, le x v) : (P ++ x :: Q).Pairwise le := by
  obtain ⟨hP, hQ, hPQ⟩ := List.pairwise_append.1 h
  refine List.pairwise_append.2 ⟨hP, List.pairwise_cons.2 ⟨h2, hQ⟩, fun u hu v hv => ?_⟩
  rcases List.mem_cons.1 hv with rfl | hv
  · exact h1 u hu
  · exact hPQ u hu v hv
/-- Sorted: by places. -/
theorem srt_at {l : List α} (h : l.Pairwise le) {i j : Nat} {x y : α} (hij : i < j) (hx : l[i]? = some x) (hy : l[j]? = some y) : le x y := by
  obtain ⟨hi, rfl⟩ := List.getElem?_eq_some_iff.1 hx
  obtain ⟨hj, rfl⟩ := List.getElem?_eq_some_iff.1 hy
  exact List.pairwise_iff_getElem.1 h i j hi hj hij
/-- Rows sorted strictly that hold the same are the same. -/
theorem strict_same {lt : α → α → Prop} (hirr : ∀ x, ¬ lt x x) (hasym : ∀ x y, lt x y → ¬ lt y x) : ∀ {l l' : List α}, l.Pairwise lt → l'.Pairwise lt → l.Perm l' → l = l'
  | [], l', _, _, hp => by rw [List.Perm.nil_eq hp]
  | x :: r, [], _, _, hp => by have := hp.length_eq; simp at this
  | x :: r, y :: s, h, h', hp => by
    have hx := List.pairwise_cons.1 h
    have hy := List.pairwise_cons.1 h'
    have hxy : x = y := by
      have h1 : x ∈ y :: s := hp.mem_iff.1 (by simp)
      have h2 : y ∈ x :: r := hp.mem_iff.2 (by simp)
      rcases List.mem_cons.1 h1 with e | h1
      · exact e
      · rcases List.mem_cons.1 h2 with e | h2
        · exact e.symm
        · exact absurd (hy.1 x h1) (hasym _ _ (hx.1 y h2))
    subst hxy
    rw [strict_same hirr hasym hx.2 hy.2 (List.Perm.cons_inv hp)]
end
end Go.Proofs.YtckdgmjekfpcjaaDoor

namespace Go.Proofs.YtckdgmjekfpcjaaDoor
open Go.Sort (swp PermIn SortedIn SWO permIn_all permIn_trans permIn_refl)
section
variable {α : Type} [Inhabited α] {lt : α → α → Bool}

/-- The places a ≤ i < m and m ≤ i < b turned about. -/
def TurnIn (a m b : Nat) (d d' : Array α) : Prop := PermIn a b d d' ∧ (∀ k, k < b - m → d'[a + k]! = d[m + k]!) ∧ ∀ k, k < m - a → d'[a + (b - m) + k]! = d[a + k]!

theorem srt_le (hS : SWO lt) {a b : Nat} {d : Array α} (h : SortedIn lt a b d) {i j : Nat} (hi : a ≤ i) (hij : i ≤ j) (hj : j < b) : lt d[j]! d[i]! = false := by
  rcases Nat.lt_or_eq_of_le hij with h1 | h1
  · exact h i j hi h1 hj
  · subst h1; exact hS.irrefl _
/-- What lies ahead of the middle is no greater than what lies behind it, once the cut pieces are turned. -/
theorem turn_cut (hS : SWO lt) {d d1 : Array α} {a s m e b : Nat} (has : a ≤ s) (hsm : s ≤ m) (hme : m ≤ e) (heb : e ≤ b)
    (hX : SortedIn lt a m d) (hY : SortedIn lt m b d) (c1 : s = a ∨ e = b ∨ lt d[e]! d[s - 1]! = false) (c2 : s = m ∨ e = m ∨ lt d[s]! d[e - 1]! = false) (hT : TurnIn s m e d d1) :
    ∀ i j, a ≤ i → i < s + (e - m) → s + (e - m) ≤ j → j < b → lt d1[j]! d1[i]! = false := by
  obtain ⟨⟨_, hout, _⟩, ht1, ht2⟩ := hT
  intro i j hai him hmj hjb
  by_cases hi : i < s
  · rw [hout i (.inl hi)]
    by_cases hj : j < e
    · obtain ⟨k, rfl⟩ : ∃ k, j = s + (e - m) + k := ⟨j - (s + (e - m)), by omega⟩
      rw [ht2 k (by omega)]
      exact hX i (s + k) hai (by omega) (by omega)
    · rw [hout j (.inr (by omega))]
      rcases c1 with c | c | c
      · omega
      · omega
      · exact hS.ntrans _ _ _ (srt_le hS hY hme (by omega) hjb) (hS.ntrans _ _ _ c (srt_le hS hX hai (by omega) (by omega)))
  · obtain ⟨k, rfl⟩ : ∃ k, i = s + k := ⟨i - s, by omega⟩
    rw [ht1 k (by omega)]
    by_cases hj : j < e
    · obtain ⟨k', rfl⟩ : ∃ k', j = s + (e - m) + k' := ⟨j - (s + (e - m)), by omega⟩
      rw [ht2 k' (by omega)]
      rcases c2 with c | c | c
      · omega
      · omega
      · exact hS.ntrans _ _ _ (srt_le hS hX has (Nat.le_add_right s k') (by omega)) (hS.ntrans _ _ _ c (srt_le hS hY (Nat.le_add_right m k) (by omega) (by omega)))
    · rw [hout j (.inr (by omega))]
      exact hY (m + k) j (Nat.le_add_right m k) (by omega) hjb
theorem permIn_wide {a b a' b' : Nat} {d d' : Array α} (ha : a' ≤ a) (hb : b ≤ b') (hs : b' ≤ d.size) (h : PermIn a b d d') : PermIn a' b' d d' := Go.Sort.permIn_mono d d' a b a' b' ha hb hs h
/-- The halves merged, the whole is. -/
theorem sym_join (hS : SWO lt) {d d1 d2 d3 : Array α} {a s m e b : Nat} (has : a ≤ s) (hsm : s ≤ m) (hme : m ≤ e) (heb : e ≤ b) (hb : b ≤ d.size)
    (hX : SortedIn lt a m d) (hY : SortedIn lt m b d) (c1 : s = a ∨ e = b ∨ lt d[e]! d[s - 1]! = false) (c2 : s = m ∨ e = m ∨ lt d[s]! d[e - 1]! = false) (hT : TurnIn s m e d d1)
    (h2 : PermIn a (s + (e - m)) d1 d2) (s2 : SortedIn lt a (s + (e - m)) d2) (h3 : PermIn (s + (e - m)) b d2 d3) (s3 : SortedIn lt (s + (e - m)) b d3) : PermIn a b d d3 ∧ SortedIn lt a b d3 := by
  have hcut := turn_cut hS has hsm hme heb hX hY c1 c2 hT
  have z1 : d1.size = d.size := hT.1.1
  have z2 : d2.size = d1.size := h2.1
  have z3 : d3.size = d2.size := h3.1
  refine ⟨permIn_trans _ _ _ _ _ (permIn_wide has heb hb hT.1) (permIn_trans _ _ _ _ _ (permIn_wide (Nat.le_refl a) (by omega) (by omega) h2) (permIn_wide (by omega) (Nat.le_refl b) (by omega) h3)), ?_⟩
  intro i j hai hij hjb
  by_cases hj : j < s + (e - m)
  · rw [h3.2.1 i (.inl (by omega)), h3.2.1 j (.inl hj)]
    exact s2 i j hai hij hj
  · by_cases hi : i < s + (e - m)
    · rw [h3.2.1 i (.inl hi)]
      -- first half of d2, second half of d3
      have step1 : ∀ j', s + (e - m) ≤ j' → j' < b → ∀ i', a ≤ i' → i' < s + (e - m) → lt d2[j']! d2[i']! = false := fun j' h4 h5 => by
        rw [h2.2.1 j' (.inr h4)]
        exact permIn_all d1 d2 a (s + (e - m)) (fun x => lt d1[j']! x = false) (by omega) h2 (fun i' h6 h7 => hcut i' j' h6 h7 h4 h5)
      exact permIn_all d2 d3 (s + (e - m)) b (fun y => lt y d2[i]! = false) (by omega) h3 (fun j' h4 h5 => step1 j' h4 h5 i hai hi) j (by omega) hjb
    · exact s3 i j (by omega) hij hjb
end
end Go.Proofs.YtckdgmjekfpcjaaDoor

namespace Go.Proofs.YtckdgmjekfpcjaaDoor
open Go.Sort (swp PermIn SortedIn SWO permIn_all permIn_trans permIn_refl swp_permIn swp_other swp_left swp_right)
theorem asym {α : Type} {lt : α → α → Bool} (hS : SWO lt) {x y : α} (h : lt x y = true) : lt y x = false := by
  cases hb : lt y x with
  | false => rfl
  | true => have := hS.trans _ _ _ h hb; rw [hS.irrefl] at this; cases this
section
variable {α : Type} [Inhabited α] {lt : α → α → Bool}

/-- n places from a on exchanged with n places from b on. -/
def SwapIn (a b n : Nat) (d d' : Array α) : Prop := PermIn a (b + n) d d' ∧ (∀ k, k < n → d'[a + k]! = d[b + k]! ∧ d'[b + k]! = d[a + k]!) ∧ ∀ i, ¬ (a ≤ i ∧ i < a + n) → ¬ (b ≤ i ∧ i < b + n) → d'[i]! = d[i]!
theorem swapIn_zero (a b : Nat) (d : Array α) : SwapIn a b 0 d d := ⟨permIn_refl _ _ _, fun k hk => by omega, fun _ _ _ => rfl⟩
theorem swapIn_step {a b n : Nat} {d d' : Array α} (hab : a + (n + 1) ≤ b) (hb : b + (n + 1) ≤ d.size) (h : SwapIn a b n d d') : SwapIn a b (n + 1) d (swp d' (a + n) (b + n)) := by
  obtain ⟨h1, h2, h3⟩ := h
  have hz : d'.size = d.size := h1.1
  refine ⟨?_, fun k hk => ?_, fun i hi1 hi2 => ?_⟩
  · exact permIn_trans _ _ _ _ _ (permIn_wide (Nat.le_refl a) (by omega) (by omega) h1) (swp_permIn d' a (b + (n + 1)) (a + n) (b + n) (by omega) (by omega) (by omega) (by omega) (by omega))
  · by_cases hkn : k = n
    · subst hkn
      rw [swp_left d' _ _ (by omega) (by omega), swp_right d' _ _ (by omega)]
      exact ⟨h3 _ (by omega) (by omega), h3 _ (by omega) (by omega)⟩
    · rw [swp_other d' _ _ _ (by omega) (by omega), swp_other d' _ _ _ (by omega) (by omega)]
      exact h2 k (by omega)
  · rw [swp_other d' _ _ _ (by omega) (by omega)]
    exact h3 i (by omega) (by omega)
/-- The rounds of rotate. -/
theorem turn_left {m i j : Nat} {d d1 d' : Array α} (him : i ≤ m) (hij : j < i) (hs : m + j ≤ d.size) (h : SwapIn (m - i) m j d d1) (ht : TurnIn (m - (i - j)) m (m + j) d1 d') : TurnIn (m - i) m (m + j) d d' := by
  obtain ⟨h1, h2, h3⟩ := h
  obtain ⟨t1, t2, t3⟩ := ht
  have hz : d1.size = d.size := h1.1
  refine ⟨permIn_trans _ _ _ _ _ h1 (permIn_wide (by omega) (Nat.le_refl _) (by omega) t1), fun k hk => ?_, fun k hk => ?_⟩
  · rw [t1.2.1 (m - i + k) (.inl (by omega))]
    exact (h2 k (by omega)).1
  · by_cases hkj : k < j
    · have e := t2 k (by omega)
      rw [show m - i + (m + j - m) + k = m - (i - j) + k by omega, e]
      exact (h2 k hkj).2
    · have e := t3 (k - j) (by omega)
      rw [show m - i + (m + j - m) + k = m - (i - j) + (m + j - m) + (k - j) by omega, e, h3 _ (by omega) (by omega)]
      congr 1; omega
theorem turn_right {m i j : Nat} {d d1 d' : Array α} (him : i ≤ m) (hij : i < j) (hs : m + j ≤ d.size) (h : SwapIn (m - i) (m + j - i) i d d1) (ht : TurnIn (m - i) m (m + (j - i)) d1 d') : TurnIn (m - i) m (m + j) d d' := by
  obtain ⟨h1, h2, h3⟩ := h
  obtain ⟨t1, t2, t3⟩ := ht
  have hz : d1.size = d.size := h1.1
  rw [show m + j - i + i = m + j by omega] at h1
  refine ⟨permIn_trans _ _ _ _ _ h1 (permIn_wide (Nat.le_refl _) (by omega) (by omega) t1), fun k hk => ?_, fun k hk => ?_⟩
  · by_cases hkj : k < j - i
    · rw [t2 k (by omega), h3 _ (by omega) (by omega)]
    · have e := t3 (k - (j - i)) (by omega)
      rw [show m - i + k = m - i + (m + (j - i) - m) + (k - (j - i)) by omega, e, (h2 _ (by omega)).1]
      congr 1; omega
  · rw [t1.2.1 _ (.inr (by omega)), show m - i + (m + j - m) + k = m + j - i + k by omega]
    exact (h2 k (by omega)).2
theorem turn_same {m i : Nat} {d d' : Array α} (him : i ≤ m) (h : SwapIn (m - i) m i d d') : TurnIn (m - i) m (m + i) d d' := by
  obtain ⟨h1, h2, h3⟩ := h
  refine ⟨h1, fun k hk => (h2 k (by omega)).1, fun k hk => ?_⟩
  rw [show m - i + (m + i - m) + k = m + k by omega]
  exact (h2 k (by omega)).2
/-- Nothing to turn. -/
theorem turn_none {s m e : Nat} {d : Array α} (h : s = m ∨ e = m) : TurnIn s m e d d := by
  refine ⟨permIn_refl _ _ _, fun k hk => ?_, fun k hk => ?_⟩
  · rcases h with h | h
    · rw [h]
    · omega
  · rcases h with h | h
    · omega
    · congr 1; omega
/-- One element moved up by exchanges: a round. -/
theorem turn_up {a i : Nat} {d d' : Array α} (hi : a ≤ i) (hs : i + 1 < d.size) (h : TurnIn a (a + 1) (i + 1) d d') : TurnIn a (a + 1) (i + 2) d (swp d' i (i + 1)) := by
  obtain ⟨h1, h2, h3⟩ := h
  have hz : d'.size = d.size := h1.1
  have e3 := h3 0 (by omega)
  rw [show a + (i + 1 - (a + 1)) + 0 = i by omega, Nat.add_zero] at e3
  refine ⟨permIn_trans _ _ _ _ _ (permIn_wide (Nat.le_refl a) (by omega) (by omega) h1) (swp_permIn d' a (i + 2) i (i + 1) (by omega) (by omega) (by omega) (by omega) (by omega)), fun k hk => ?_, fun k hk => ?_⟩
  · by_cases hk2 : a + k = i
    · rw [hk2, swp_left d' _ _ (by omega) (by omega), h1.2.1 (i + 1) (.inr (by omega))]
      congr 1; omega
    · rw [swp_other d' _ _ _ (by omega) (by omega)]
      exact h2 k (by omega)
  · obtain rfl : k = 0 := by omega
    rw [show a + (i + 2 - (a + 1)) + 0 = i + 1 by omega, swp_right d' _ _ (by omega), e3, Nat.add_zero]
/-- .. and down. -/
theorem turn_down {m i : Nat} {d d' : Array α} (hi : i < m) (hs : m < d.size) (h : TurnIn (i + 1) m (m + 1) d d') : TurnIn i m (m + 1) d (swp d' (i + 1) i) := by
  obtain ⟨h1, h2, h3⟩ := h
  have hz : d'.size = d.size := h1.1
  have e2 := h2 0 (by omega)
  simp only [Nat.add_zero] at e2
  refine ⟨permIn_trans _ _ _ _ _ (permIn_wide (by omega) (Nat.le_refl _) (by omega) h1) (swp_permIn d' i (m + 1) (i + 1) i (by omega) (by omega) (by omega) (by omega) (by omega)), fun k hk => ?_, fun k hk => ?_⟩
  · obtain rfl : k = 0 := by omega
    show (swp d' (i + 1) i)[i]! = d[m]!
    rw [swp_right d' (i + 1) i (by omega), e2]
  · by_cases hk0 : k = 0
    · subst hk0
      rw [show i + (m + 1 - m) + 0 = i + 1 by omega, swp_left d' _ _ (by omega) (by omega), h1.2.1 i (.inl (by omega)), Nat.add_zero]
    · rw [swp_other d' _ _ _ (by omega) (by omega)]
      have e := h3 (k - 1) (by omega)
      rw [show i + (m + 1 - m) + k = i + 1 + (m + 1 - m) + (k - 1) by omega, e]
      congr 1; omega
/-- One element ahead of a sorted row, merged in. -/
theorem sym_one (hS : SWO lt) {d d' : Array α} {a b i : Nat} (hai : a + 1 ≤ i) (hib : i ≤ b) (hb : b ≤ d.size) (hY : SortedIn lt (a + 1) b d) (h1 : i = a + 1 ∨ lt d[i - 1]! d[a]! = true) (h2 : i = b ∨ lt d[i]! d[a]! = false) (hT : TurnIn a (a + 1) i d d') : PermIn a b d d' ∧ SortedIn lt a b d' := by
  have hX : SortedIn lt a (a + 1) d := fun x y h3 h4 h5 => by omega
  have ez : ∀ k, k < i - (a + 1) → d'[a + k]! = d[a + 1 + k]! := hT.2.1
  have e0 := hT.2.2 0 (by omega)
  simp only [Nat.add_zero] at e0
  have eo : ∀ k, i ≤ k → d'[k]! = d[k]! := fun k hk => hT.1.2.1 k (.inr hk)
  refine sym_join hS (d1 := d') (d2 := d') (s := a) (m := a + 1) (e := i) (Nat.le_refl a) (by omega) hai hib hb hX hY (.inl rfl) (h1.elim (fun h => .inr (.inl h)) (fun h => .inr (.inr (asym hS h)))) hT (permIn_refl _ _ _) ?_ (permIn_refl _ _ _) ?_
  · intro x y hx hxy hy
    obtain ⟨p, rfl⟩ : ∃ p, x = a + p := ⟨x - a, by omega⟩
    obtain ⟨q, rfl⟩ : ∃ q, y = a + q := ⟨y - a, by omega⟩
    rw [ez p (by omega), ez q (by omega)]
    exact hY _ _ (by omega) (by omega) (by omega)
  · intro x y hx hxy hy
    rw [eo y (by omega)]
    by_cases hxe : x = a + (i - (a + 1))
    · rw [hxe, e0]
      rcases h2 with h | h
      · omega
      · exact hS.ntrans _ _ _ (srt_le hS hY hai (by omega) hy) h
    · rw [eo x (by omega)]
      exact hY x y (by omega) hxy hy
/-- One element behind a sorted row, merged in. -/
theorem sym_last (hS : SWO lt) {d d' : Array α} {a m i : Nat} (hai : a ≤ i) (him : i ≤ m) (hb : m + 1 ≤ d.size) (hX : SortedIn lt a m d) (h1 : i = a ∨ lt d[m]! d[i - 1]! = false) (h2 : i = m ∨ lt d[m]! d[i]! = true) (hT : TurnIn i m (m + 1) d d') : PermIn a (m + 1) d d' ∧ SortedIn lt a (m + 1) d' := by
  have hY : SortedIn lt m (m + 1) d := fun x y h3 h4 h5 => by omega
  have e0 := hT.2.1 0 (by omega)
  simp only [Nat.add_zero] at e0
  have ez : ∀ k, k < m - i → d'[i + (m + 1 - m) + k]! = d[i + k]! := hT.2.2
  have eo : ∀ k, k < i → d'[k]! = d[k]! := fun k hk => hT.1.2.1 k (.inl hk)
  refine sym_join hS (d1 := d') (d2 := d') (s := i) (m := m) (e := m + 1) hai him (by omega) (Nat.le_refl _) hb hX hY (.inr (.inl rfl)) (h2.elim .inl (fun h => .inr (.inr (asym hS (by rw [Nat.add_sub_cancel]; exact h))))) hT (permIn_refl _ _ _) ?_ (permIn_refl _ _ _) ?_
  · intro x y hx hxy hy
    rw [eo x (by omega)]
    by_cases hye : y = i
    · rw [hye, e0]
      rcases h1 with h | h
      · omega
      · exact hS.ntrans _ _ _ h (srt_le hS hX hx (by omega) (by omega))
    · rw [eo y (by omega)]
      exact hX x y hx hxy (by omega)
  · intro x y hx hxy hy
    obtain ⟨p, rfl⟩ : ∃ p, x = i + (m + 1 - m) + p := ⟨x - (i + (m + 1 - m)), by omega⟩
    obtain ⟨q, rfl⟩ : ∃ q, y = i + (m + 1 - m) + q := ⟨y - (i + (m + 1 - m)), by omega⟩
    rw [ez p (by omega), ez q (by omega)]
    exact hX _ _ (by omega) (by omega) (by omega)
end
end Go.Proofs.YtckdgmjekfpcjaaDoor
