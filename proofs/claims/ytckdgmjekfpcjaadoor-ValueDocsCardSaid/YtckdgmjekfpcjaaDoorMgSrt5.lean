/-
  Walk: Go's symMerge. No condition.
-/
import Derived.Test.YtckdgmjekfpcjaaDoorMgSrt4
namespace Go.Proofs.YtckdgmjekfpcjaaDoor
open Go.RowKit Go.Proofs
open Go.Sort (swp PermIn SortedIn SWO permIn_refl permIn_trans)

/-- The four pieces behind a turn are sorted. -/
theorem turn_srt {α : Type} [Inhabited α] {lt : α → α → Bool} {d d1 : Array α} {a s m e b : Nat} (hsm : s ≤ m) (hme : m ≤ e) (hX : SortedIn lt a m d) (hY : SortedIn lt m b d) (has : a ≤ s) (heb : e ≤ b) (hT : TurnIn s m e d d1) :
    SortedIn lt a s d1 ∧ SortedIn lt s (s + (e - m)) d1 ∧ SortedIn lt (s + (e - m)) e d1 ∧ SortedIn lt e b d1 := by
  obtain ⟨⟨_, hout, _⟩, h1, h2⟩ := hT
  refine ⟨fun i j hi hij hj => ?_, fun i j hi hij hj => ?_, fun i j hi hij hj => ?_, fun i j hi hij hj => ?_⟩
  · rw [hout i (.inl (by omega)), hout j (.inl (by omega))]
    exact hX i j hi hij (by omega)
  · obtain ⟨p, rfl⟩ : ∃ p, i = s + p := ⟨i - s, by omega⟩
    obtain ⟨q, rfl⟩ : ∃ q, j = s + q := ⟨j - s, by omega⟩
    rw [h1 p (by omega), h1 q (by omega)]
    exact hY _ _ (by omega) (by omega) (by omega)
  · obtain ⟨p, rfl⟩ : ∃ p, i = s + (e - m) + p := ⟨i - (s + (e - m)), by omega⟩
    obtain ⟨q, rfl⟩ : ∃ q, j = s + (e - m) + q := ⟨j - (s + (e - m)), by omega⟩
    rw [h2 p (by omega), h2 q (by omega)]
    exact hX _ _ (by omega) (by omega) (by omega)
  · rw [hout i (.inr (by omega)), hout j (.inr (by omega))]
    exact hY i j (by omega) hij hj
theorem srt_same {lt : FE → FE → Bool} {d d' : Array FE} {a b : Nat} (h : SortedIn lt a b d) (he : ∀ i, a ≤ i → i < b → d'[i]! = d[i]!) : SortedIn lt a b d' := fun i j hi hij hj => by
  rw [he i hi (by omega), he j (by omega) hj]; exact h i j hi hij hj

set_option maxRecDepth 100000 in
set_option maxHeartbeats 16000000 in
theorem symMain_calls {base g off cap : Nat} (hbase : base ≤ g) (d : Array FE) (a m b : Nat) (ham : a + 1 < m) (hmb : m + 1 < b) (hb : b ≤ d.size) (hX : SortedIn ltE a m d) (hY : SortedIn ltE m b d) (hsz : d.size ≤ 1099511627776) {w : World} (hR : RowE w g off d)
    (ih : ∀ (d' : Array FE) (a' m' b' : Nat) (w' : World), b' - a' < b - a → a' < m' → m' < b' → b' ≤ d'.size → d'.size = d.size → SortedIn ltE a' m' d' → SortedIn ltE m' b' d' → RowE w' g off d' → Calls Tryd.prog 40 #[.slice (some ⟨g, off, none⟩) d'.size cap, .int .i64 a', .int .i64 m', .int .i64 b', .func (.func 17) #[] #[]] w' (SortC base g off (MergedE a' b' d') w')) :
    Calls Tryd.prog 40 #[.slice (some ⟨g, off, none⟩) d.size cap, .int .i64 a, .int .i64 m, .int .i64 b, .func (.func 17) #[] #[]] w (SortC base g off (MergedE a b d) w) := by
  unfold SortC at ih ⊢
  have hcm := hid (fun (x y : FE) (w : World) => cmpE_calls x y w)
  have hro := hid (fun (d' : Array FE) (s e : Nat) (w' : World) (h1 : s < m) (h2 : m < e) (h3 : e ≤ d'.size) (h4 : d'.size = d.size) (h5 : RowE w' g off d') => rotate_calls (cap := cap) hbase d' s m e h1 h2 h3 (by rw [h4]; exact hsz) h5 (.func (.func 17) #[] #[]))
  unfold SortC at hro
  obtain ⟨N, hN⟩ : ∃ N, N = d.size := ⟨_, rfl⟩
  have ih2 := hid (fun (d' : Array FE) (a' m' b' : Nat) (w' : World) (h1 : b' - a' < b - a) (h2 : a' < m') (h3 : m' < b') (h4 : b' ≤ N) (h5 : d'.size = N) h6 h7 h8 => by
    have h := ih d' a' m' b' w' h1 h2 h3 (by rw [h5]; exact h4) (by rw [h5, hN]) h6 h7 h8
    rw [h5] at h
    exact h)
  have hro2 := hid (fun (d' : Array FE) (s e : Nat) (w' : World) (h1 : s < m) (h2 : m < e) (h3 : e ≤ N) (h4 : d'.size = N) (h5 : RowE w' g off d') => by
    have h := hro.out d' s e w' h1 h2 (by rw [h4]; exact h3) (by rw [h4, hN]) h5
    rw [h4] at h
    exact h)
  clear ih hro
  rw [← hN] at hb hsz ⊢
  have hN0 := hid hN.symm
  clear hN
  have hR0 := hid hR
  clear hR
  replace hX := hid hX
  replace hY := hid hY
  obtain ⟨mid, hmid⟩ : ∃ h, h = (a + b) / 2 := ⟨_, rfl⟩
  have hma : ((m : Int) - (a : Int) == 1) = false := by simp; omega
  have hbm : ((b : Int) - (m : Int) == 1) = false := by simp; omega
  have q0 : IntKind.i64.wrap ((m : Int) - (a : Int)) = (m : Int) - (a : Int) := by rw [IntWalk.i64_in _ (by omega)]
  have q1 : IntKind.i64.wrap ((b : Int) - (m : Int)) = (b : Int) - (m : Int) := by rw [IntWalk.i64_in _ (by omega)]
  have e1 : IntKind.i64.wrap ((a : Int) + (b : Int)) = (a : Int) + (b : Int) := by rw [IntWalk.i64_in _ (by omega)]
  have e2 : IntKind.u64.wrap ((a : Int) + (b : Int)) = (a : Int) + (b : Int) := by rw [IntKind.wrap_u64]; omega
  have e3 : ((a : Int) + (b : Int)) / 2 = (mid : Int) := by omega
  have e4 : IntKind.i64.wrap (mid : Int) = (mid : Int) := by rw [IntWalk.i64_in _ (by omega)]
  obtain ⟨nn, hnn⟩ : ∃ n, n = mid + m := ⟨_, rfl⟩
  have e5 : IntKind.i64.wrap ((mid : Int) + (m : Int)) = (nn : Int) := by rw [IntWalk.i64_in _ (by omega)]; omega
  have e7 : IntKind.i64.wrap ((nn : Int) - (b : Int)) = (nn : Int) - (b : Int) := by rw [IntWalk.i64_in _ (by omega)]
  obtain ⟨p, hp⟩ : ∃ p, p + 1 = nn := ⟨nn - 1, by omega⟩
  have e6 : IntKind.i64.wrap ((nn : Int) - 1) = (p : Int) := by rw [IntWalk.i64_in _ (by omega)]; omega
  obtain ⟨lo, hi, hlo, hhi⟩ : ∃ lo hi : Nat, (mid < m → lo + b = nn ∧ hi = mid) ∧ (¬ mid < m → lo = a ∧ hi = m) := by
    by_cases h : mid < m
    · exact ⟨nn - b, mid, fun _ => ⟨by omega, rfl⟩, fun h2 => absurd h h2⟩
    · exact ⟨a, m, fun h2 => absurd h2 h, fun _ => ⟨rfl, rfl⟩⟩
  have hbd : Hid (a ≤ lo ∧ lo ≤ hi ∧ hi ≤ m ∧ hi ≤ mid ∧ nn ≤ lo + b ∧ (lo = a ∨ lo + b = nn) ∧ (hi = m ∨ hi = mid) ∧ a < mid ∧ mid < b ∧ nn = mid + m ∧ p + 1 = nn) := by
    show _ ∧ _
    by_cases h : mid < m
    · obtain ⟨h1, h2⟩ := hlo h
      exact ⟨by omega, by omega, by omega, by omega, by omega, .inr h1, .inr h2, by omega, by omega, hnn, hp⟩
    · obtain ⟨h1, h2⟩ := hhi h
      exact ⟨by omega, by omega, by omega, by omega, by omega, .inl h1, .inl h2, by omega, by omega, hnn, hp⟩
  replace hlo := hid hlo
  replace hhi := hid hhi
  replace hmid := hid hmid
  replace hnn := hid hnn
  replace hp := hid hp
  go_enter Tryd.func40, Tryd.ntmps40
  go_upto_if 140 with fail
  clear hma hbm q0 q1 e1 e2 e3 e4 e5
  go_cut [20, 21] from 138 to 146 (fun s t wx => s = .int .i64 lo ∧ t = .int .i64 hi ∧ wx = w)
  case first =>
    by_cases hmm : mid < m
    · obtain ⟨h1, h2⟩ := hlo.out hmm
      have hmmi : (mid : Int) < (m : Int) := by omega
      have e8 : IntKind.i64.wrap ((nn : Int) - (b : Int)) = (lo : Int) := by rw [e7]; omega
      subst h2
      clear h1 e7
      go_wp2_with fail
      go_meet
      exact ⟨rfl, rfl, rfl⟩
    · obtain ⟨h1, h2⟩ := hhi.out hmm
      have hmmi : ¬ (mid : Int) < (m : Int) := by omega
      subst h1 h2
      go_wp2_with fail
      go_meet
      exact ⟨rfl, rfl, rfl⟩
  case rest =>
    obtain ⟨rfl, rfl, hww⟩ := hcut
    replace hww := hww.symm
    subst hww
    clear e7 hlo hhi
    go_wp2_with fail
    go_loopg [20, 21] hi (fun gk s t wr => ∃ (i j : Nat), s = .int .i64 i ∧ t = .int .i64 j ∧ j ≤ gk + i ∧ lo ≤ i ∧ i ≤ j ∧ j ≤ hi ∧ Hid (i = lo ∨ ltE d[p - (i - 1)]! d[i - 1]! = false) ∧ Hid (j = hi ∨ ltE d[p - j]! d[j]! = true) ∧ Hid (RowE wr g off d) ∧ Hid (Below base w wr))
    case atStart => exact ⟨lo, hi, rfl, rfl, by omega, Nat.le_refl _, hbd.out.2.1, Nat.le_refl _, .inl rfl, .inl rfl, hR0, Below.refl _ _⟩
    case round =>
      clear hR0 e6
      obtain ⟨i, j, rfl, rfl, hgk, hai, hij, hjb, hI, hJ, hR, hB⟩ := hrel
      by_cases hlt : i < j
      · have hlti : (i : Int) < (j : Int) := by omega
        have hjm : j ≤ b := by have := hbd.out; omega
        obtain ⟨h, hh⟩ : ∃ h, h = (i + j) / 2 := ⟨_, rfl⟩
        have e1 : IntKind.i64.wrap ((i : Int) + (j : Int)) = (i : Int) + (j : Int) := by rw [IntWalk.i64_in _ (by omega)]
        have e2 : IntKind.u64.wrap ((i : Int) + (j : Int)) = (i : Int) + (j : Int) := by rw [IntKind.wrap_u64]; omega
        have e3 : ((i : Int) + (j : Int)) / 2 = (h : Int) := by omega
        have e4 : IntKind.i64.wrap (h : Int) = (h : Int) := by rw [IntWalk.i64_in _ (by omega)]
        have hih : i ≤ h := by omega
        have hhj : h < j := by omega
        clear hh
        have hpc0 : h ≤ p := by have := hbd.out; omega
        obtain ⟨pc, hpc⟩ : ∃ q, q = p - h := ⟨_, rfl⟩
        have hpcb : pc < N := by have := hbd.out; omega
        have hhb : h < N := by omega
        have hpN : p ≤ 4398046511104 := by have := hbd.out; omega
        have e6 : IntKind.i64.wrap ((p : Int) - (h : Int)) = (pc : Int) := by rw [IntWalk.i64_in _ (by omega)]; omega
        replace hpc := hid hpc
        have hx := hR.out.cell (i := pc) (by rw [hN0.out]; assumption)
        have hy := hR.out.cell (i := h) (by rw [hN0.out]; assumption)
        have hc1 := hid (fun (c : scmp d[pc]!.nm d[h]!.nm < 0) => ltE_true c)
        have hc2 := hid (fun (c : ¬ scmp d[pc]!.nm d[h]!.nm < 0) => ltE_false c)
        obtain ⟨XE, hXE⟩ : ∃ x, x = d[pc]! := ⟨_, rfl⟩
        obtain ⟨YE, hYE⟩ : ∃ x, x = d[h]! := ⟨_, rfl⟩
        rw [← hXE] at hx
        rw [← hYE] at hy
        have hkey := hid (show scmp d[pc]!.nm d[h]!.nm = scmp XE.nm YE.nm from by rw [hXE, hYE])
        clear hXE hYE
        obtain ⟨xm, xk, xn, xs, xa, xl, xc, xf, xg, xh⟩ := XE
        obtain ⟨ym, yk, yn, ys, ya, yl, yc, yf, yg, yh⟩ := YE
        obtain ⟨x0, x1, x2, x3, x4, x5⟩ := hx
        obtain ⟨y0, y1, y2, y3, y4, y5⟩ := hy
        simp only at x0 x1 x2 x3 x4 x5 y0 y1 y2 y3 y4 y5
        have b1 : (pc : Int) < (N : Int) := by omega
        have b2 : (h : Int) < (N : Int) := by omega
        have hSS : Hid (∀ z : World, Below wr.heap.size wr z → CmpS g (off + (pc) * 6) (.string xm) (.int .i64 xk) (.int .i64 xn) (.string xs) (.slice xa xl xc) (.slice xf xg xh) (off + (h) * 6) (.string ym) (.int .i64 yk) (.int .i64 yn) (.string ys) (.slice ya yl yc) (.slice yf yg yh) z) := fun z h => by
          have hl := hR.out.1
          exact ⟨(h.cell (p := ⟨g, _, none⟩) hl).trans x0, (h.cell (p := ⟨g, _, none⟩) hl).trans x1, (h.cell (p := ⟨g, _, none⟩) hl).trans x2, (h.cell (p := ⟨g, _, none⟩) hl).trans x3, (h.cell (p := ⟨g, _, none⟩) hl).trans x4, (h.cell (p := ⟨g, _, none⟩) hl).trans x5, (h.cell (p := ⟨g, _, none⟩) hl).trans y0, (h.cell (p := ⟨g, _, none⟩) hl).trans y1, (h.cell (p := ⟨g, _, none⟩) hl).trans y2, (h.cell (p := ⟨g, _, none⟩) hl).trans y3, (h.cell (p := ⟨g, _, none⟩) hl).trans y4, (h.cell (p := ⟨g, _, none⟩) hl).trans y5⟩
        clear x0 x1 x2 x3 x4 x5 y0 y1 y2 y3 y4 y5
        go_upto_region 35 with fail
        refine wp_region_T (CmpS g (off + (pc) * 6) (.string xm) (.int .i64 xk) (.int .i64 xn) (.string xs) (.slice xa xl xc) (.slice xf xg xh) (off + (h) * 6) (.string ym) (.int .i64 yk) (.int .i64 yn) (.string ys) (.slice ya yl yc) (.slice yf yg yh)) 14 (by kernel_rfl) ?_
        have hT0 := hSS.out wr.drew (Below.refl wr.heap.size wr).drew
        ((refine wpAnyT_take (i := 0) (v := ?_) rfl (by kernel_rfl) (by kernel_rfl) (by kernel_rfl) (by kernel_rfl) (by exact fun _ _ _ h => h) (Or.inl ⟨by kernel_rfl, ?_⟩) hT0 ?_; rotate_left 1; focus (intro w hSw; unfold CmpS at hSw; (try dsimp only at hSw); go_simp; try with_reducible rfl); (try simp only [List.getElem_toArray, List.getElem_cons_zero, List.getElem_cons_succ, Act.put, List.setIfInBounds_toArray, List.set_cons_zero, List.set_cons_succ])); (refine wpAnyT_take (i := 1) (v := ?_) rfl (by kernel_rfl) (by kernel_rfl) (by kernel_rfl) (by kernel_rfl) (by exact fun _ _ _ h => h) (Or.inl ⟨by kernel_rfl, ?_⟩) hT0 ?_; rotate_left 1; focus (intro w hSw; unfold CmpS at hSw; (try dsimp only at hSw); go_simp; try with_reducible rfl); (try simp only [List.getElem_toArray, List.getElem_cons_zero, List.getElem_cons_succ, Act.put, List.setIfInBounds_toArray, List.set_cons_zero, List.set_cons_succ])); (refine wpAnyT_take (i := 2) (v := ?_) rfl (by kernel_rfl) (by kernel_rfl) (by kernel_rfl) (by kernel_rfl) (by exact fun _ _ _ h => h) (Or.inl ⟨by kernel_rfl, ?_⟩) hT0 ?_; rotate_left 1; focus (intro w hSw; unfold CmpS at hSw; (try dsimp only at hSw); go_simp; try with_reducible rfl); (try simp only [List.getElem_toArray, List.getElem_cons_zero, List.getElem_cons_succ, Act.put, List.setIfInBounds_toArray, List.set_cons_zero, List.set_cons_succ])); (refine wpAnyT_take (i := 3) (v := ?_) rfl (by kernel_rfl) (by kernel_rfl) (by kernel_rfl) (by kernel_rfl) (by exact fun _ _ _ h => h) (Or.inl ⟨by kernel_rfl, ?_⟩) hT0 ?_; rotate_left 1; focus (intro w hSw; unfold CmpS at hSw; (try dsimp only at hSw); go_simp; try with_reducible rfl); (try simp only [List.getElem_toArray, List.getElem_cons_zero, List.getElem_cons_succ, Act.put, List.setIfInBounds_toArray, List.set_cons_zero, List.set_cons_succ])); (refine wpAnyT_take (i := 4) (v := ?_) rfl (by kernel_rfl) (by kernel_rfl) (by kernel_rfl) (by kernel_rfl) (by exact fun _ _ _ h => h) (Or.inl ⟨by kernel_rfl, ?_⟩) hT0 ?_; rotate_left 1; focus (intro w hSw; unfold CmpS at hSw; (try dsimp only at hSw); go_simp; try with_reducible rfl); (try simp only [List.getElem_toArray, List.getElem_cons_zero, List.getElem_cons_succ, Act.put, List.setIfInBounds_toArray, List.set_cons_zero, List.set_cons_succ])); (refine wpAnyT_take (i := 5) (v := ?_) rfl (by kernel_rfl) (by kernel_rfl) (by kernel_rfl) (by kernel_rfl) (by exact fun _ _ _ h => h) (Or.inl ⟨by kernel_rfl, ?_⟩) hT0 ?_; rotate_left 1; focus (intro w hSw; unfold CmpS at hSw; (try dsimp only at hSw); go_simp; try with_reducible rfl); (try simp only [List.getElem_toArray, List.getElem_cons_zero, List.getElem_cons_succ, Act.put, List.setIfInBounds_toArray, List.set_cons_zero, List.set_cons_succ])); (refine wpAnyT_take (i := 6) (v := ?_) rfl (by kernel_rfl) (by kernel_rfl) (by kernel_rfl) (by kernel_rfl) (by exact fun _ _ _ h => h) (Or.inl ⟨by kernel_rfl, ?_⟩) hT0 ?_; rotate_left 1; focus (intro w hSw; unfold CmpS at hSw; (try dsimp only at hSw); go_simp; try with_reducible rfl); (try simp only [List.getElem_toArray, List.getElem_cons_zero, List.getElem_cons_succ, Act.put, List.setIfInBounds_toArray, List.set_cons_zero, List.set_cons_succ])); (refine wpAnyT_take (i := 7) (v := ?_) rfl (by kernel_rfl) (by kernel_rfl) (by kernel_rfl) (by kernel_rfl) (by exact fun _ _ _ h => h) (Or.inl ⟨by kernel_rfl, ?_⟩) hT0 ?_; rotate_left 1; focus (intro w hSw; unfold CmpS at hSw; (try dsimp only at hSw); go_simp; try with_reducible rfl); (try simp only [List.getElem_toArray, List.getElem_cons_zero, List.getElem_cons_succ, Act.put, List.setIfInBounds_toArray, List.set_cons_zero, List.set_cons_succ])); (refine wpAnyT_take (i := 8) (v := ?_) rfl (by kernel_rfl) (by kernel_rfl) (by kernel_rfl) (by kernel_rfl) (by exact fun _ _ _ h => h) (Or.inl ⟨by kernel_rfl, ?_⟩) hT0 ?_; rotate_left 1; focus (intro w hSw; unfold CmpS at hSw; (try dsimp only at hSw); go_simp; try with_reducible rfl); (try simp only [List.getElem_toArray, List.getElem_cons_zero, List.getElem_cons_succ, Act.put, List.setIfInBounds_toArray, List.set_cons_zero, List.set_cons_succ])); (refine wpAnyT_take (i := 9) (v := ?_) rfl (by kernel_rfl) (by kernel_rfl) (by kernel_rfl) (by kernel_rfl) (by exact fun _ _ _ h => h) (Or.inl ⟨by kernel_rfl, ?_⟩) hT0 ?_; rotate_left 1; focus (intro w hSw; unfold CmpS at hSw; (try dsimp only at hSw); go_simp; try with_reducible rfl); (try simp only [List.getElem_toArray, List.getElem_cons_zero, List.getElem_cons_succ, Act.put, List.setIfInBounds_toArray, List.set_cons_zero, List.set_cons_succ])); (refine wpAnyT_take (i := 10) (v := ?_) rfl (by kernel_rfl) (by kernel_rfl) (by kernel_rfl) (by kernel_rfl) (by exact fun _ _ _ h => h) (Or.inl ⟨by kernel_rfl, ?_⟩) hT0 ?_; rotate_left 1; focus (intro w hSw; unfold CmpS at hSw; (try dsimp only at hSw); go_simp; try with_reducible rfl); (try simp only [List.getElem_toArray, List.getElem_cons_zero, List.getElem_cons_succ, Act.put, List.setIfInBounds_toArray, List.set_cons_zero, List.set_cons_succ])))
        refine wpAnyT_one (i := 11) (by kernel_rfl) rfl (fun K hK => ?_)
        go_simp
        refine (hcm.out ⟨xm, xk, xn, xs, xa, xl, xc, xf, xg, xh⟩ ⟨ym, yk, yn, ys, ya, yl, yc, yf, yg, yh⟩ wr.drew).mono ?_
        rintro e w2 ⟨rfl, h2⟩
        have E2 := hid ((Below.refl wr.heap.size wr).drew.step h2)
        have hT1 := hSS.out w2 E2.out
        clear h2 hT0
        simp only
        (refine hK.out _ _ (fun _ => hT1) (fun _ => ?_); clear hK K; (try simp only [Act.put, List.setIfInBounds_toArray, List.set_cons_zero, List.set_cons_succ]))
        refine wpAnyT_one (i := 12) (by kernel_rfl) rfl (fun K hK => ?_)
        go_simp
        (refine hK.out _ _ (fun _ => hT1) (fun _ => ?_); clear hK K; (try simp only [Act.put, List.setIfInBounds_toArray, List.set_cons_zero, List.set_cons_succ]))
        refine wpAnyT_one (i := 13) (by kernel_rfl) rfl (fun K hK => ?_)
        go_simp
        (refine hK.out _ _ (fun _ => hT1) (fun _ => ?_); clear hK K; (try simp only [Act.put, List.setIfInBounds_toArray, List.set_cons_zero, List.set_cons_succ]))
        refine wpAnyT_done (by kernel_rfl) ?_ _
        clear hT1 hSS
        have hbw := hid (show base ≤ wr.heap.size from by have := hR.out.1; omega)
        have hR2 := hid (hR.out.later E2.out)
        have hB2 := hid (hB.out.trans (E2.out.mono hbw.out))
        by_cases hc : scmp xm ym < 0
        · have hl := hid (hc1.out (by rw [hkey.out]; exact hc))
          have hcb : decide (scmp xm ym < 0) = true := decide_eq_true hc
          simp only [hcb, Bool.not_true]
          clear hcb hc1 hc2 hkey
          go_wp2_with fail
          go_roundg (h - i)
          case measure => omega
          case rel => exact ⟨i, h, rfl, rfl, by omega, hai, hih, by omega, hI, .inr (by rw [← hpc.out]; exact hl.out), hR2, hB2⟩
        · have hl := hid (hc2.out (by rw [hkey.out]; exact hc))
          have hcb : decide (scmp xm ym < 0) = false := decide_eq_false hc
          have e7 : IntKind.i64.wrap ((h : Int) + 1) = (h : Int) + 1 := by rw [IntWalk.i64_in _ (by omega)]
          simp only [hcb, Bool.not_false]
          clear hcb hc1 hc2 hkey
          go_wp2_with fail
          go_roundg (j - (h + 1))
          case measure => omega
          case rel => exact ⟨h + 1, j, by go_num, rfl, by omega, by omega, by omega, hjb, .inr (by rw [Nat.add_sub_cancel, ← hpc.out]; exact hl.out), hJ, hR2, hB2⟩
      · have hlti : ¬ (i : Int) < (j : Int) := by omega
        obtain rfl : i = j := by omega
        obtain ⟨ee, hee⟩ : ∃ e, e + i = nn := ⟨nn - i, by have := hbd.out; omega⟩
        have e8 : IntKind.i64.wrap ((nn : Int) - (i : Int)) = (ee : Int) := by have := hbd.out; rw [IntWalk.i64_in _ (by omega)]; omega
        have hb2 := hid (show a ≤ i ∧ i ≤ m ∧ m ≤ ee ∧ ee ≤ b ∧ i + (ee - m) = mid ∧ i ≤ mid ∧ a < mid ∧ mid < b from by have := hbd.out; omega)
        have c1 : Hid (i = a ∨ ee = b ∨ ltE d[ee]! d[i - 1]! = false) := by
          have h9 := hbd.out
          by_cases hz : i = lo
          · rcases h9.2.2.2.2.2.1 with h | h
            · exact .inl (hz.trans h)
            · exact .inr (.inl (by omega))
          · rcases hI.out with h | h
            · exact absurd h hz
            · exact .inr (.inr (by rw [show ee = p - (i - 1) by omega]; exact h))
        have c2 : Hid (i = m ∨ ee = m ∨ ltE d[i]! d[ee - 1]! = false) := by
          have h9 := hbd.out
          by_cases hz : i = hi
          · rcases h9.2.2.2.2.2.2.1 with h | h
            · exact .inl (hz.trans h)
            · exact .inr (.inl (by omega))
          · rcases hJ.out with h | h
            · exact absurd h hz
            · exact .inr (.inr (asym swo_E (by rw [show ee - 1 = p - i by omega]; exact h)))
        have hR1 := hR
        have hB1 := hB
        clear hR hB hI hJ hai hgk hjb hij
        replace hee := hid hee
        obtain ⟨TB, hTB⟩ : ∃ t : Bool, t = true ↔ (i < m ∧ m < ee) := ⟨decide (i < m ∧ m < ee), decide_eq_true_iff⟩
        replace hTB := hid hTB
        go_upto_region 39 with fail
        clear e8
        go_cut [185] from 178 to 185 (fun s wx => s = .bool TB ∧ wx = wr)
        case first =>
          have hb := hTB.out
          clear hTB
          by_cases h1 : i < m
          · have h1i : (i : Int) < (m : Int) := by omega
            by_cases h2 : m < ee
            · have h2i : (m : Int) < (ee : Int) := by omega
              obtain rfl : TB = true := hb.2 ⟨h1, h2⟩
              clear hb
              go_wp2_with fail
              go_meet
              exact ⟨rfl, rfl⟩
            · have h2i : ¬ (m : Int) < (ee : Int) := by omega
              obtain rfl : TB = false := by
                cases TB with
                | false => rfl
                | true => exact absurd (hb.1 rfl).2 h2
              clear hb
              go_wp2_with fail
              go_meet
              exact ⟨rfl, rfl⟩
          · have h1i : ¬ (i : Int) < (m : Int) := by omega
            obtain rfl : TB = false := by
              cases TB with
              | false => rfl
              | true => exact absurd (hb.1 rfl).1 h1
            clear hb
            go_wp2_with fail
            go_meet
            exact ⟨rfl, rfl⟩
        case rest =>
          obtain ⟨rfl, hww⟩ := hcut
          replace hww := hww.symm
          subst hww
          go_upto_if 185 with fail
          go_cut [0] from 185 to 185 (fun s wx => s = .slice (some ⟨g, off, none⟩) N cap ∧ ∃ (d1 : Array FE), Hid (d1.size = N) ∧ Hid (TurnIn i m ee d d1) ∧ Hid (RowE wx g off d1) ∧ Hid (Below base w wx))
          case first =>
            cases TB with
            | true =>
              obtain ⟨h1, h2⟩ := hTB.out.1 rfl
              go_wp2_with fail
              refine (hro2.out d i ee wr h1 h2 (by have := hb2.out; omega) hN0.out hR1.out).mono ?_
              rintro e wz ⟨rfl, hz, d1, hT1, hRz⟩
              go_wp2_with fail
              go_meet
              exact ⟨rfl, d1, hid (hT1.1.1.trans hN0.out), hT1, hRz, hid (hB1.out.trans hz)⟩
            | false =>
              have hno : ¬ (i < m ∧ m < ee) := fun h => by have := hTB.out.2 h; cases this
              go_wp2_with fail
              go_meet
              exact ⟨rfl, d, hN0, turn_none (by have := hb2.out; omega), hR1, hB1⟩
          case rest =>
            obtain ⟨rfl, d1, hz1, hT1, hRd, hBd⟩ := hcut
            obtain ⟨wd, hwd⟩ : ∃ x, x = wc := ⟨_, rfl⟩
            subst hwd
            have hs2 := hid (turn_srt hb2.out.2.1 hb2.out.2.2.1 hX.out hY.out hb2.out.1 hb2.out.2.2.2.1 hT1.out)
            rw [hb2.out.2.2.2.2.1] at hs2
            clear hR1 hB1 hTB TB
            obtain ⟨TB, hTB⟩ : ∃ t : Bool, t = true ↔ (a < i ∧ i < mid) := ⟨decide (a < i ∧ i < mid), decide_eq_true_iff⟩
            replace hTB := hid hTB
            go_upto_region 41 with fail
            go_cut [199] from 192 to 199 (fun s wx => s = .bool TB ∧ wx = wd)
            case first =>
              have hb := hTB.out
              clear hTB
              by_cases h1 : a < i
              · have h1i : (a : Int) < (i : Int) := by omega
                by_cases h2 : i < mid
                · have h2i : (i : Int) < (mid : Int) := by omega
                  obtain rfl : TB = true := hb.2 ⟨h1, h2⟩
                  clear hb
                  go_wp2_with fail
                  go_meet
                  exact ⟨rfl, rfl⟩
                · have h2i : ¬ (i : Int) < (mid : Int) := by omega
                  obtain rfl : TB = false := by
                    cases TB with
                    | false => rfl
                    | true => exact absurd (hb.1 rfl).2 h2
                  clear hb
                  go_wp2_with fail
                  go_meet
                  exact ⟨rfl, rfl⟩
              · have h1i : ¬ (a : Int) < (i : Int) := by omega
                obtain rfl : TB = false := by
                  cases TB with
                  | false => rfl
                  | true => exact absurd (hb.1 rfl).1 h1
                clear hb
                go_wp2_with fail
                go_meet
                exact ⟨rfl, rfl⟩
            case rest =>
              obtain ⟨rfl, hww⟩ := hcut
              replace hww := hww.symm
              subst hww
              go_upto_if 199 with fail
              go_cut [0] from 199 to 199 (fun s wx => s = .slice (some ⟨g, off, none⟩) N cap ∧ ∃ (d2 : Array FE), Hid (d2.size = N) ∧ Hid (MergedE a mid d1 d2) ∧ Hid (RowE wx g off d2) ∧ Hid (Below base w wx))
              case first =>
                cases TB with
                | true =>
                  obtain ⟨h1, h2⟩ := hTB.out.1 rfl
                  go_wp2_with fail
                  refine (ih2.out d1 a i mid wd (by have := hb2.out; omega) h1 h2 (by have := hb2.out; omega) hz1.out hs2.out.1 hs2.out.2.1 hRd.out).mono ?_
                  rintro e wz ⟨rfl, hz, d2, hM2, hR2⟩
                  go_wp2_with fail
                  go_meet
                  exact ⟨rfl, d2, hid (hM2.1.1.trans hz1.out), hM2, hR2, hid (hBd.out.trans hz)⟩
                | false =>
                  have hno : ¬ (a < i ∧ i < mid) := fun h => by have := hTB.out.2 h; cases this
                  go_wp2_with fail
                  go_meet
                  refine ⟨rfl, d1, hz1, ⟨permIn_refl _ _ _, ?_⟩, hRd, hBd⟩
                  have h9 := hb2.out
                  by_cases hz : a = i
                  · rw [hz]; exact hs2.out.2.1
                  · rw [show mid = i by omega]; exact hs2.out.1
              case rest =>
                obtain ⟨rfl, d2, hz2, hM2, hR2, hB2⟩ := hcut
                obtain ⟨we, hwe⟩ : ∃ x, x = wc := ⟨_, rfl⟩
                subst hwe
                have hs3 := hid (show SortedIn ltE mid ee d2 ∧ SortedIn ltE ee b d2 from ⟨srt_same hs2.out.2.2.1 (fun t h1 h2 => hM2.out.1.2.1 t (.inr h1)), srt_same hs2.out.2.2.2 (fun t h1 h2 => hM2.out.1.2.1 t (.inr (by have := hb2.out; omega)))⟩)
                clear hs2 hRd hBd hz1 hTB TB
                obtain ⟨TB, hTB⟩ : ∃ t : Bool, t = true ↔ (mid < ee ∧ ee < b) := ⟨decide (mid < ee ∧ ee < b), decide_eq_true_iff⟩
                replace hTB := hid hTB
                go_upto_region 43 with fail
                go_cut [213] from 206 to 213 (fun s wx => s = .bool TB ∧ wx = we)
                case first =>
                  have hb := hTB.out
                  clear hTB
                  by_cases h1 : mid < ee
                  · have h1i : (mid : Int) < (ee : Int) := by omega
                    by_cases h2 : ee < b
                    · have h2i : (ee : Int) < (b : Int) := by omega
                      obtain rfl : TB = true := hb.2 ⟨h1, h2⟩
                      clear hb
                      go_wp2_with fail
                      go_meet
                      exact ⟨rfl, rfl⟩
                    · have h2i : ¬ (ee : Int) < (b : Int) := by omega
                      obtain rfl : TB = false := by
                        cases TB with
                        | false => rfl
                        | true => exact absurd (hb.1 rfl).2 h2
                      clear hb
                      go_wp2_with fail
                      go_meet
                      exact ⟨rfl, rfl⟩
                  · have h1i : ¬ (mid : Int) < (ee : Int) := by omega
                    obtain rfl : TB = false := by
                      cases TB with
                      | false => rfl
                      | true => exact absurd (hb.1 rfl).1 h1
                    clear hb
                    go_wp2_with fail
                    go_meet
                    exact ⟨rfl, rfl⟩
                case rest =>
                  obtain ⟨rfl, hww⟩ := hcut
                  replace hww := hww.symm
                  subst hww
                  cases TB with
                  | true =>
                    obtain ⟨h1, h2⟩ := hTB.out.1 rfl
                    go_wp2_with fail
                    refine (ih2.out d2 mid ee b we (by have := hb2.out; omega) h1 h2 hb hz2.out hs3.out.1 hs3.out.2 hR2.out).mono ?_
                    rintro e wz ⟨rfl, hz, d3, hM3, hR3⟩
                    go_wp2_with fail
                    go_end0
                    have hBx := hB2.out.trans hz
                    exact ⟨rfl, hBx, d3, sym_join swo_E hb2.out.1 hb2.out.2.1 hb2.out.2.2.1 hb2.out.2.2.2.1 (by rw [hN0.out]; exact hb) hX.out hY.out c1.out c2.out hT1.out (by rw [hb2.out.2.2.2.2.1]; exact hM2.out.1) (by rw [hb2.out.2.2.2.2.1]; exact hM2.out.2) (by rw [hb2.out.2.2.2.2.1]; exact hM3.1) (by rw [hb2.out.2.2.2.2.1]; exact hM3.2), hR3⟩
                  | false =>
                    have hno : ¬ (mid < ee ∧ ee < b) := fun h => by have := hTB.out.2 h; cases this
                    go_wp2_with fail
                    go_end0
                    have hM3 : MergedE mid b d2 d2 := ⟨permIn_refl _ _ _, by
                      have h9 := hb2.out
                      by_cases hz : mid = ee
                      · rw [hz]; exact hs3.out.2
                      · rw [show b = ee by omega]; exact hs3.out.1⟩
                    have hBx := hB2.out
                    have hR3 := hR2.out
                    exact ⟨rfl, hBx, d2, sym_join swo_E hb2.out.1 hb2.out.2.1 hb2.out.2.2.1 hb2.out.2.2.2.1 (by rw [hN0.out]; exact hb) hX.out hY.out c1.out c2.out hT1.out (by rw [hb2.out.2.2.2.2.1]; exact hM2.out.1) (by rw [hb2.out.2.2.2.2.1]; exact hM2.out.2) (by rw [hb2.out.2.2.2.2.1]; exact hM3.1) (by rw [hb2.out.2.2.2.2.1]; exact hM3.2), hR3⟩
end Go.Proofs.YtckdgmjekfpcjaaDoor
