/-
  Walk: Go's stable sort of a row of fields. No condition.
  Walk: slices.SortStableFunc at Make's fields. No condition.
-/
import Derived.Test.YtckdgmjekfpcjaaDoorMgSrt6
namespace Go.Proofs.YtckdgmjekfpcjaaDoor
open Go.RowKit Go.Proofs
open Go.Sort (swp PermIn SortedIn insertionSort permIn_refl permIn_trans)

theorem dvd_gap {c x a : Nat} (hx : c ∣ x) (ha : c ∣ a) (h : x < a) : x + c ≤ a := by
  obtain ⟨u, rfl⟩ := hx
  obtain ⟨v, rfl⟩ := ha
  have huv : u < v := Nat.lt_of_mul_lt_mul_left h
  have := Nat.mul_le_mul_left c huv
  rwa [Nat.mul_succ] at this
/-- Every block of bs places is sorted (the last one as far as it goes). -/
def BlkE (bs n : Nat) (d : Array FE) : Prop := ∀ x, bs ∣ x → SortedIn ltE x (min (x + bs) n) d
/-- Below a the blocks of c are sorted, from a on those of bs. -/
def HalfE (bs c n a : Nat) (d : Array FE) : Prop := (∀ x, c ∣ x → x < a → SortedIn ltE x (min (x + c) n) d) ∧ ∀ x, bs ∣ x → a ≤ x → SortedIn ltE x (min (x + bs) n) d
theorem half_step {bs n a : Nat} {d d' : Array FE} (ha : 2 * bs ∣ a) (hn : a + 2 * bs ≤ n) (h : HalfE bs (2 * bs) n a d) (hm : MergedE a (a + 2 * bs) d d') : HalfE bs (2 * bs) n (a + 2 * bs) d' := by
  refine ⟨fun x hx hxa => ?_, fun x hx hxa => ?_⟩
  · by_cases e : x = a
    · subst e
      rw [Nat.min_eq_left hn]
      exact hm.2
    · have hlt : x < a := by
        rcases Nat.lt_trichotomy x a with h1 | h1 | h1
        · exact h1
        · exact absurd h1 e
        · have := dvd_gap ha hx h1; omega
      have hg := dvd_gap hx ha hlt
      exact srt_same (h.1 x hx hlt) (fun i hi hj => hm.1.2.1 i (.inl (by omega)))
  · exact srt_same (h.2 x hx (by omega)) (fun i hi hj => hm.1.2.1 i (.inr (by omega)))
theorem half_end {bs n a : Nat} {d d' : Array FE} (ha : 2 * bs ∣ a) (hn : n < a + 2 * bs) (h : HalfE bs (2 * bs) n a d) (hp : PermIn a n d d' ∨ d' = d) (hs : SortedIn ltE a n d') : BlkE (2 * bs) n d' := by
  intro x hx
  by_cases e : x = a
  · subst e
    rw [Nat.min_eq_right (by omega)]
    exact hs
  · by_cases hlt : x < a
    · have hg := dvd_gap hx ha hlt
      rcases hp with hp | rfl
      · exact srt_same (h.1 x hx hlt) (fun i hi hj => hp.2.1 i (.inl (by omega)))
      · exact h.1 x hx hlt
    · have hg := dvd_gap ha hx (by omega)
      intro i j hi hij hj
      omega
/-- The first blocks. -/
def FirstE (n a : Nat) (d : Array FE) : Prop := ∀ x, 20 ∣ x → x < a → SortedIn ltE x (min (x + 20) n) d
theorem first_step {n a : Nat} {d d' : Array FE} (ha : 20 ∣ a) (hn : a + 20 ≤ n) (h : FirstE n a d) (hm : MergedE a (a + 20) d d') : FirstE n (a + 20) d' := by
  intro x hx hxa
  by_cases e : x = a
  · subst e
    rw [Nat.min_eq_left hn]
    exact hm.2
  · have hlt : x < a := by omega
    have hg := dvd_gap hx ha hlt
    exact srt_same (h x hx hlt) (fun i hi hj => hm.1.2.1 i (.inl (by omega)))
theorem first_end {n a : Nat} {d d' : Array FE} (ha : 20 ∣ a) (hn : n < a + 20) (h : FirstE n a d) (hm : MergedE a n d d') : BlkE 20 n d' := by
  intro x hx
  by_cases e : x = a
  · subst e
    rw [Nat.min_eq_right (by omega)]
    exact hm.2
  · by_cases hlt : x < a
    · have hg := dvd_gap hx ha hlt
      exact srt_same (h x hx hlt) (fun i hi hj => hm.1.2.1 i (.inl (by omega)))
    · intro i j hi hij hj
      omega
theorem half_start {bs n : Nat} {d : Array FE} (h : BlkE bs n d) : HalfE bs (2 * bs) n 0 d := ⟨fun _ _ hx => absurd hx (Nat.not_lt_zero _), fun x hx _ => h x hx⟩

set_option maxRecDepth 100000 in
set_option maxHeartbeats 16000000 in
theorem stable_calls {base g off cap : Nat} (hbase : base ≤ g) (d : Array FE) (hsz : d.size ≤ 549755813888) {w : World} (hR : RowE w g off d) :
    Calls Tryd.prog 26 #[.slice (some ⟨g, off, none⟩) d.size cap, .int .i64 d.size, .func (.func 17) #[] #[]] w (SortC base g off (MergedE 0 d.size d) w) := by
  unfold SortC
  have hin := hid (fun (d' : Array FE) (a b : Nat) (w' : World) (h1 : a ≤ b) (h2 : b ≤ d.size) (h3 : d'.size = d.size) (h5 : RowE w' g off d') => by
    have h := insSort_calls (cap := cap) hbase d' a b h1 (by rw [h3]; exact h2) (by rw [h3]; omega) h5
    rw [h3] at h
    exact h.mono fun e w2 h => (show e = .returned (.tuple #[]) ∧ Below base w' w2 ∧ ∃ d2, MergedE a b d' d2 ∧ RowE w2 g off d2 from ⟨h.1, h.2.1, by
      obtain ⟨_, _, d2, rfl, h9⟩ := h
      exact ⟨_, Go.Sort.insertionSort_holds swo_E d' a b h1 (by rw [h3]; exact h2), h9⟩⟩))
  have hme := hid (fun (d' : Array FE) (a m b : Nat) (w' : World) (h1 : a < m) (h2 : m < b) (h3 : b ≤ d.size) (h4 : d'.size = d.size) (h5 : SortedIn ltE a m d') (h6 : SortedIn ltE m b d') (h7 : RowE w' g off d') => by
    have h := symMerge_calls (cap := cap) hbase (b - a + 1) d' a m b w' (by omega) h1 h2 (by rw [h4]; exact h3) h5 h6 (by rw [h4]; omega) h7
    rw [h4] at h
    exact h)
  unfold SortC at hme
  obtain ⟨N, hN⟩ : ∃ N, N = d.size := ⟨_, rfl⟩
  rw [← hN] at hin hme hsz ⊢
  have hN0 := hid hN.symm
  clear hN
  have hR0 := hid hR
  clear hR
  go_enter Tryd.func26, Tryd.ntmps26
  go_wp2_with fail
  go_loopg [7, 8] N (fun gk s t wr => ∃ (a : Nat) (dk : Array FE), s = .int .i64 a ∧ t = .int .i64 ((a : Int) + 20) ∧ N ≤ gk + a ∧ a ≤ N ∧ Hid (20 ∣ a) ∧ Hid (PermIn 0 N d dk) ∧ Hid (FirstE N a dk) ∧ Hid (RowE wr g off dk) ∧ Hid (Below base w wr))
  case atStart => exact ⟨0, d, rfl, rfl, by omega, Nat.zero_le _, ⟨0, rfl⟩, permIn_refl _ _ _, fun x _ hx => absurd hx (Nat.not_lt_zero _), hR0, Below.refl _ _⟩
  case round =>
    clear hR0
    obtain ⟨a, dk, rfl, rfl, hgk, haN, hd20, hP, hF, hR, hB⟩ := hrel
    have hsd := hid (show dk.size = N from by rw [hP.out.1, hN0.out])
    by_cases hlt : a + 20 ≤ N
    · have hlti : (a : Int) + 20 ≤ (N : Int) := by omega
      have e1 : IntKind.i64.wrap ((a : Int) + 20 + 20) = (a : Int) + 20 + 20 := by rw [IntWalk.i64_in _ (by omega)]
      go_wp2_with fail
      refine (hin.out dk a (a + 20) wr (by omega) hlt hsd.out hR.out).mono ?_
      rintro e w2 ⟨rfl, h2, d2, hM, hR2⟩
      have hB2 := hid (hB.out.trans h2)
      replace hR2 := hid hR2
      have hF2 := hid (first_step hd20.out hlt hF.out hM)
      have hP2 := hid (permIn_trans _ _ _ _ _ hP.out (permIn_wide (Nat.zero_le a) hlt (by rw [hsd.out]; exact Nat.le_refl _) hM.1))
      have hd2 := hid (Nat.dvd_add hd20.out (Nat.dvd_refl 20))
      clear h2 hM
      go_wp2_with fail
      go_roundg (N - (a + 20))
      case measure => omega
      case rel => exact ⟨a + 20, d2, by go_num, by go_num, by omega, hlt, hd2, hP2, hF2, hR2, hB2⟩
    · have hlti : ¬ (a : Int) + 20 ≤ (N : Int) := by omega
      go_wp2_with fail
      refine (hin.out dk a N wr haN (Nat.le_refl _) hsd.out hR.out).mono ?_
      rintro e w2 ⟨rfl, h2, d2, hM, hR2⟩
      have hB2 := hid (hB.out.trans h2)
      replace hR2 := hid hR2
      have hK2 := hid (first_end hd20.out (by omega) hF.out hM)
      have hP2 := hid (permIn_trans _ _ _ _ _ hP.out (permIn_wide (Nat.zero_le a) (Nat.le_refl N) (by rw [hsd.out]; exact Nat.le_refl _) hM.1))
      clear h2 hM hF hR hB hP hd20 hgk haN hlt hlti hsd
      go_wp2_with fail
      go_loopg [6] N (fun gk s wr => ∃ (bs : Nat) (dk : Array FE), s = .int .i64 bs ∧ 1 ≤ bs ∧ N ≤ gk + bs ∧ Hid (PermIn 0 N d dk) ∧ Hid (BlkE bs N dk) ∧ Hid (RowE wr g off dk) ∧ Hid (Below base w wr))
      case atStart => exact ⟨20, d2, rfl, by omega, by omega, hP2, hK2, hR2, hB2⟩
      case round =>
        clear hP2 hK2 hR2 hB2
        obtain ⟨bs, dk, rfl, hbs, hgk, hP, hK, hR, hB⟩ := hrel
        by_cases hlt : bs < N
        · have hlti : (bs : Int) < (N : Int) := by omega
          obtain ⟨c, hc⟩ : ∃ c, c = 2 * bs := ⟨_, rfl⟩
          have m1 : IntKind.i64.wrap (2 * (bs : Int)) = (c : Int) := by rw [IntWalk.i64_in _ (by omega)]; omega
          have m2 : IntKind.i64.wrap ((bs : Int) * 2) = (c : Int) := by rw [IntWalk.i64_in _ (by omega)]; omega
          have hc1 : bs + bs = c := by omega
          replace hc := hid hc
          have hH0 := hid (half_start hK.out)
          have hR1 := hR
          have hB1 := hB
          have hP1 := hP
          clear hR hB hP hK
          go_wp2_with fail
          go_loopg [7, 8] N (fun gk2 s t wr => ∃ (a : Nat) (dj : Array FE), s = .int .i64 a ∧ t = .int .i64 ((a : Int) + (c : Int)) ∧ N ≤ gk2 + a ∧ a ≤ N ∧ Hid (2 * bs ∣ a) ∧ Hid (PermIn 0 N d dj) ∧ Hid (HalfE bs (2 * bs) N a dj) ∧ Hid (RowE wr g off dj) ∧ Hid (Below base w wr))
          case atStart => exact ⟨0, dk, rfl, by simp, by omega, Nat.zero_le _, ⟨0, rfl⟩, hP1, hH0, hR1, hB1⟩
          case round =>
            clear hH0 hR1 hB1 hP1
            obtain ⟨a, dj, rfl, rfl, hgk2, haN, hda, hP, hH, hR, hB⟩ := hrel
            have hsd := hid (show dj.size = N from by rw [hP.out.1, hN0.out])
            have hdb := hid (show bs ∣ a from Nat.dvd_trans (Nat.dvd_mul_left bs 2) hda.out)
            have hdb2 := hid (Nat.dvd_add hdb.out (Nat.dvd_refl bs))
            have s1 := hid (hH.out.2 a hdb.out (Nat.le_refl _))
            have s2 := hid (hH.out.2 (a + bs) hdb2.out (Nat.le_add_right _ _))
            have e1 : IntKind.i64.wrap ((a : Int) + (bs : Int)) = (a : Int) + (bs : Int) := by rw [IntWalk.i64_in _ (by omega)]
            by_cases hfit : a + c ≤ N
            · have hfi : (a : Int) + (c : Int) ≤ (N : Int) := by omega
              have e2 : IntKind.i64.wrap ((a : Int) + (c : Int) + (c : Int)) = (a : Int) + (c : Int) + (c : Int) := by rw [IntWalk.i64_in _ (by omega)]
              have t1 : SortedIn ltE a (a + bs) dj := by have h := s1.out; rwa [Nat.min_eq_left (by omega)] at h
              have t2 : SortedIn ltE (a + bs) (a + c) dj := by have h := s2.out; rwa [Nat.add_assoc, hc1, Nat.min_eq_left hfit] at h
              have hca := hid (hme.out dj a (a + bs) (a + c) wr (by omega) (by omega) hfit hsd.out t1 t2 hR.out)
              clear t1 t2 s1 s2
              simp only [Int.natCast_add] at hca
              go_wp2_with fail
              refine hca.out.mono ?_
              rintro e w2 ⟨rfl, h2, d2, hM, hR2⟩
              have hB2 := hid (hB.out.trans h2)
              replace hR2 := hid hR2
              have hH2 := hid (half_step (bs := bs) hda.out (by rw [← hc.out]; exact hfit) hH.out (by rw [← hc.out]; exact hM))
              rw [← hc.out] at hH2
              have hP2 := hid (permIn_trans _ _ _ _ _ hP.out (permIn_wide (Nat.zero_le a) hfit (by rw [hsd.out]; exact Nat.le_refl _) hM.1))
              have hd2 := hid (Nat.dvd_add hda.out (Nat.dvd_refl (2 * bs)))
              rw [← hc.out] at hd2
              clear h2 hM hca
              go_wp2_with fail
              go_roundg (N - (a + c))
              case measure => omega
              case rel => exact ⟨a + c, d2, by go_num, by go_num, by omega, hfit, by rw [← hc.out]; exact hd2, hP2, by rw [← hc.out]; exact hH2, hR2, hB2⟩
            · have hfi : ¬ (a : Int) + (c : Int) ≤ (N : Int) := by omega
              by_cases hmid : a + bs < N
              · have hmi : (a : Int) + (bs : Int) < (N : Int) := by omega
                have t1 : SortedIn ltE a (a + bs) dj := by have h := s1.out; rwa [Nat.min_eq_left (by omega)] at h
                have t2 : SortedIn ltE (a + bs) N dj := by have h := s2.out; rwa [Nat.add_assoc, hc1, Nat.min_eq_right (by omega)] at h
                have hca := hid (hme.out dj a (a + bs) N wr (by omega) hmid (Nat.le_refl _) hsd.out t1 t2 hR.out)
                clear t1 t2 s1 s2
                simp only [Int.natCast_add] at hca
                go_wp2_with fail
                refine hca.out.mono ?_
                rintro e w2 ⟨rfl, h2, d2, hM, hR2⟩
                have hB2 := hid (hB.out.trans h2)
                replace hR2 := hid hR2
                have hK2 := hid (half_end (bs := bs) hda.out (by rw [← hc.out]; omega) hH.out (.inl hM.1) hM.2)
                rw [← hc.out] at hK2
                have hP2 := hid (permIn_trans _ _ _ _ _ hP.out (permIn_wide (Nat.zero_le a) (Nat.le_refl N) (by rw [hsd.out]; exact Nat.le_refl _) hM.1))
                clear h2 hM hca
                go_wp2_with fail
                go_roundg (N - c)
                case measure => omega
                case rel => exact ⟨c, d2, rfl, by omega, by omega, hP2, hK2, hR2, hB2⟩
              · have hmi : ¬ (a : Int) + (bs : Int) < (N : Int) := by omega
                have t1 : SortedIn ltE a N dj := by have h := s1.out; rwa [Nat.min_eq_right (by omega)] at h
                have hK2 := hid (half_end (bs := bs) hda.out (by rw [← hc.out]; omega) hH.out (.inr rfl) t1)
                rw [← hc.out] at hK2
                clear t1 s1 s2
                go_wp2_with fail
                go_roundg (N - c)
                case measure => omega
                case rel => exact ⟨c, dj, rfl, by omega, by omega, hP, hK2, hR, hB⟩
        · have hlti : ¬ (bs : Int) < (N : Int) := by omega
          have hs := hK.out 0 (Nat.dvd_zero bs)
          rw [Nat.zero_add, Nat.min_eq_right (by omega)] at hs
          go_wp2_with fail
          go_end0
          exact ⟨rfl, hB.out, dk, ⟨hP.out, hs⟩, hR.out⟩
end Go.Proofs.YtckdgmjekfpcjaaDoor

namespace Go.Proofs.YtckdgmjekfpcjaaDoor
open Go.RowKit Go.Proofs
open Go.Sort (PermIn SortedIn)

set_option maxRecDepth 100000 in
theorem sortStable_calls {base g off cap : Nat} (hbase : base ≤ g) (d : Array FE) (hsz : d.size ≤ 549755813888) {w : World} (hR : RowE w g off d) :
    Calls Tryd.prog 16 #[.slice (some ⟨g, off, none⟩) d.size cap, .func (.func 17) #[] #[]] w (SortC base g off (MergedE 0 d.size d) w) := by
  have hs := hid (stable_calls (cap := cap) hbase d hsz hR)
  unfold SortC at hs ⊢
  obtain ⟨N, hN⟩ : ∃ N, N = d.size := ⟨_, rfl⟩
  rw [← hN] at hs ⊢
  clear hN hR
  go_enter Tryd.func16, Tryd.ntmps16
  go_wp2_with fail
  refine hs.out.mono ?_
  rintro e w2 ⟨rfl, h2, d2, hM, hR2⟩
  go_wp2_with fail
  go_end0
  exact ⟨rfl, h2, d2, hM, hR2⟩
end Go.Proofs.YtckdgmjekfpcjaaDoor
