/-
  Walks: the reference's Compare.
-/
import Derived.Test.YtdjegpmjhfbamaaDoorRef10
import Derived.Test.YtdjegpmjhfbamaaDoorOrd2
import Derived.Test.YtdjegpmjhfbamaaDoorQuiet
import Derived.Test.YtdjegpmjhfbamaaDoorVal22
import Derived.Deep.CutBlock
import Derived.Deep.CutRange
namespace Go.Proofs.YtdjegpmjhfbamaaDoor
open Go.RowKit Go.Proofs

theorem lex_left {x : Int} (h : x ≠ 0) (y : Int) : lex x y = x := by simp [lex, h]
theorem lex_right {x : Int} (h : x = 0) (y : Int) : lex x y = y := by simp [lex, h]

set_option maxRecDepth 100000 in
set_option maxHeartbeats 4000000 in
theorem rcompare_calls : ∀ (V V' : PVal) (w : World) (cs cs' : List Value), V.all formedB = true → V'.all formedB = true → Rd w (Now w) V cs → Rd w (Now w) V' cs' →
    Calls Tryd.prog 52 #[.agg cs.toArray, .agg cs'.toArray] w fun e w' => e = .returned (.int .i64 (cmpV V V')) ∧ Below w.heap.size w w' := by
  intro V
  induction hN : V.nodes using Nat.strongRecOn generalizing V with
  | _ N ih =>
  subst hN
  intro V' w cs cs' hA hA' hV hV'
  have hV0 := hid hV
  have hV0' := hid hV'
  obtain ⟨k, n, s, l, fn, fv⟩ := V
  obtain ⟨k', n', s', l', fn', fv'⟩ := V'
  obtain ⟨la, lc, fa, fc, rfl, hk, hn, hs, hlc, hlm, hfc, hfm, hL, hF⟩ := hV.inv
  obtain ⟨la', lc', fa', fc', rfl, hk', hn', hs', hlc', hlm', hfc', hfm', hL', hF'⟩ := hV'.inv
  clear hV hV'
  rw [all_parts, Bool.and_eq_true] at hA hA'
  have hml : Hid (∀ x ∈ l, x.all formedB = true) := fun x hx => by
    by_cases hq : k = 5
    · subst hq; exact List.all_eq_true.1 hA.2 x hx
    · have := (formed_has hA.1).2.2.1 hq
      subst this
      cases hx
  have hml' : Hid (∀ x ∈ l', x.all formedB = true) := fun x hx => by
    by_cases hq : k' = 5
    · subst hq; exact List.all_eq_true.1 hA'.2 x hx
    · have := (formed_has hA'.1).2.2.1 hq
      subst this
      cases hx
  have hmf : Hid (∀ x ∈ fv, x.all formedB = true) := fun x hx => by
    by_cases hq : k = 6
    · subst hq; exact List.all_eq_true.1 hA.2 x hx
    · have := (formed_has hA.1).2.2.2 hq
      subst this
      cases hx
  have hmf' : Hid (∀ x ∈ fv', x.all formedB = true) := fun x hx => by
    by_cases hq : k' = 6
    · subst hq; exact List.all_eq_true.1 hA'.2 x hx
    · have := (formed_has hA'.1).2.2.2 hq
      subst this
      cases hx
  have hR := hid (cmpV_ref hA.1 hA'.1 hF.1 hF'.1)
  replace hA := hid hA
  replace hA' := hid hA'
  have hfl := hid hF.1
  have hfl' := hid hF'.1
  generalize cmpV (.mk k n s l fn fv) (.mk k' n' s' l' fn' fv') = R at *
  have hB0 : Hid (Below w.heap.size w ((w.alloc (.cells #[.int .i64 k, .int .i64 n, .string s, .slice la l.length lc, .slice fa fv.length fc] 52)).alloc (.cells #[.int .i64 k', .int .i64 n', .string s', .slice la' l'.length lc', .slice fa' fv'.length fc'] 52))) := (below_new _ _).step (below_new _ _)
  by_cases h1 : k = k'
  case neg =>
    have b1 : (k != k') = true := by simpa using h1
    have hi : icmp k k' ≠ 0 := by unfold icmp; split <;> (try split) <;> omega
    replace hR : Hid (R = icmp k k') := hR.out.trans (lex_left hi _)
    have hc := hid (fun w => rcmp_calls k k' w)
    generalize icmp k k' = ic at *
    go_enter Tryd.func52, Tryd.ntmps52
    go_wp2_with fail
    refine (hc.out _).mono ?_
    rintro e w1 ⟨rfl, rfl⟩
    go_wp2_with fail
    go_ret
    exact ⟨by rw [hR.out]; rfl, hB0.out⟩
  subst h1
  replace hR : Hid _ := hid (hR.out.trans (lex_right (icmp_self k) _))
  by_cases h2 : n = n'
  case neg =>
    have b1 : (n != n') = true := by simpa using h2
    have hi : icmp n n' ≠ 0 := by unfold icmp; split <;> (try split) <;> omega
    replace hR : Hid (R = icmp n n') := hR.out.trans (lex_left hi _)
    by_cases h3 : n < n'
    · replace hR : Hid (R = -1) := hR.out.trans (by unfold icmp; rw [if_pos h3])
      go_enter Tryd.func52, Tryd.ntmps52
      go_wp2_with fail
      go_ret
      exact ⟨by rw [hR.out]; rfl, hB0.out⟩
    · replace hR : Hid (R = 1) := hR.out.trans (by unfold icmp; rw [if_neg h3, if_pos (by omega)])
      go_enter Tryd.func52, Tryd.ntmps52
      go_wp2_with fail
      go_ret
      exact ⟨by rw [hR.out]; rfl, hB0.out⟩
  subst h2
  replace hR : Hid _ := hid (hR.out.trans (lex_right (icmp_self n) _))
  have hst := hid (fun w => rstrings_calls s s' w)
  generalize scmp s s' = S at *
  go_enter Tryd.func52, Tryd.ntmps52
  go_wp2_with fail
  refine (hst.out _).mono ?_
  rintro e w1 ⟨rfl, rfl⟩
  have hT1 : Hid (∃ T, T = lex S (cmpL l l')) := ⟨_, rfl⟩
  go_upto_block 0 with fail
  go_cut [5, 6] from 33 to 61 (fun c i wx => c = .int .i64 (lex S (cmpL l l')) ∧ (∃ z : Nat, i = .int .i64 z) ∧ Below ((w.alloc (.cells #[.int .i64 k, .int .i64 n, .string s, .slice la l.length lc, .slice fa fv.length fc] 52)).alloc (.cells #[.int .i64 k, .int .i64 n, .string s', .slice la' l'.length lc', .slice fa' fv'.length fc'] 52)).heap.size ((w.alloc (.cells #[.int .i64 k, .int .i64 n, .string s, .slice la l.length lc, .slice fa fv.length fc] 52)).alloc (.cells #[.int .i64 k, .int .i64 n, .string s', .slice la' l'.length lc', .slice fa' fv'.length fc'] 52)) wx)
  case first =>
    go_wp2_with fail
    go_loopg [5, 6] l.length (fun g c i wr => ∃ (j : Nat) (C : Int), g + j = l.length ∧ i = .int .i64 j ∧ c = .int .i64 C ∧ lex S (cmpL l l') = lex C (cmpL (l.drop j) (l'.drop j)) ∧ Below ((w.alloc (.cells #[.int .i64 k, .int .i64 n, .string s, .slice la l.length lc, .slice fa fv.length fc] 52)).alloc (.cells #[.int .i64 k, .int .i64 n, .string s', .slice la' l'.length lc', .slice fa' fv'.length fc'] 52)).heap.size ((w.alloc (.cells #[.int .i64 k, .int .i64 n, .string s, .slice la l.length lc, .slice fa fv.length fc] 52)).alloc (.cells #[.int .i64 k, .int .i64 n, .string s', .slice la' l'.length lc', .slice fa' fv'.length fc'] 52)) wr)
    case atStart => exact ⟨0, S, by omega, rfl, rfl, rfl, Below.refl _ _⟩
    case round =>
      obtain ⟨j, C, hj, rfl, rfl, hT, hbr⟩ := hrel
      replace hT := hid hT
      obtain ⟨kA, kB⟩ := two_cells hbr
      have A3 := kA 3 _ rfl
      have B3 := kB 3 _ rfl
      clear kA kB
      by_cases c0 : C = 0
      case neg =>
        have b1 : (C == 0) = false := by simpa using c0
        have hq : Hid (lex S (cmpL l l') = C) := hT.out.trans (lex_left c0 _)
        go_wp2_with fail
        go_meet
        exact ⟨by rw [hq.out], ⟨j, rfl⟩, hbr⟩
      subst c0
      by_cases c1 : j < l.length
      case neg =>
        have hq : Hid (lex S (cmpL l l') = 0) := by
          show _ = _
          rw [hT.out, List.drop_eq_nil_of_le (by omega : l.length ≤ j), (cmpL_nil _).1]; rfl
        go_wp2_with fail
        go_meet
        exact ⟨by rw [hq.out], ⟨j, rfl⟩, hbr⟩
      by_cases c2 : j < l'.length
      case neg =>
        have hq : Hid (lex S (cmpL l l') = 0) := by
          show _ = _
          rw [hT.out, List.drop_eq_nil_of_le (by omega : l'.length ≤ j), (cmpL_nil _).2]; rfl
        go_wp2_with fail
        go_meet
        exact ⟨by rw [hq.out], ⟨j, rfl⟩, hbr⟩
      have hbw := hid (hB0.out.step hbr)
      have hpr := hL.later hbw.out
      have hpr' := hL'.later hbw.out
      obtain ⟨x, hx⟩ : ∃ x, l[j]? = some x := ⟨_, List.getElem?_eq_getElem c1⟩
      obtain ⟨y, hy⟩ : ∃ y, l'[j]? = some y := ⟨_, List.getElem?_eq_getElem c2⟩
      obtain ⟨b, off, xs, rfl, hxS, hxc, hxr⟩ := hpr.at_ hx
      obtain ⟨b', off', ys, rfl, hyS, hyc, hyr⟩ := hpr'.at_ hy
      have hxn := nodes_mem (List.mem_of_getElem? hx)
      have hfx := hml.out x (List.mem_of_getElem? hx)
      have hfy := hml'.out y (List.mem_of_getElem? hy)
      have hcx := hid (fun (p : Later wr) => ih x.nodes (by simp only [PVal.nodes]; omega) x rfl y p.x _ _ hfx hfy (hxr.later p.h) (hyr.later p.h))
      have hnext : Hid (lex S (cmpL l l') = lex (cmpV x y) (cmpL (l.drop (j + 1)) (l'.drop (j + 1)))) := by
        show _ = _
        rw [hT.out, lex_right rfl, List.drop_eq_getElem_cons c1, List.drop_eq_getElem_cons c2, cmpL_cons]
        rw [List.getElem?_eq_getElem c1] at hx
        rw [List.getElem?_eq_getElem c2] at hy
        rw [Option.some.inj hx, Option.some.inj hy]
      generalize cmpV x y = C' at *
      clear hx hy hfx hfy
      obtain ⟨xk, xn, xsx, xl, xfn, xfv⟩ := x
      obtain ⟨xla, xlc, xfa, xfc, rfl, _⟩ := hxr.inv
      obtain ⟨yk, yn, ysx, yl, yfn, yfv⟩ := y
      obtain ⟨yla, ylc, yfa, yfc, rfl, _⟩ := hyr.inv
      obtain ⟨e0, e1, e2, e3, e4⟩ := five hxc
      obtain ⟨d0, d1, d2, d3, d4⟩ := five hyc
      clear hxc hyc
      go_upto_region 11 with fail
      replace A3 := Later.cell A3
      replace B3 := Later.cell B3
      replace e0 := Later.cell e0
      replace e1 := Later.cell e1
      replace e2 := Later.cell e2
      replace e3 := Later.cell e3
      replace e4 := Later.cell e4
      replace d0 := Later.cell d0
      replace d1 := Later.cell d1
      replace d2 := Later.cell d2
      replace d3 := Later.cell d3
      replace d4 := Later.cell d4
      refine wp_later (by kernel_rfl) (by kernel_rfl) ?_
      repeat (go_big_quiet_step ((go_at_call 52; exact later_calls _ (hcx.out _))))
      refine wpQuiet_nil ?_
      intro _ hw'
      obtain ⟨p, hp⟩ := hw'
      subst hp
      clear A3 B3 e0 e1 e2 e3 e4 d0 d1 d2 d3 d4
      go_wp2_with fail
      go_roundg (l.length - (j + 1))
      case measure => omega
      case rel => exact ⟨j + 1, C', by omega, by go_num, rfl, hnext.out, hbr.step p.h⟩
  case rest =>
    obtain ⟨rfl, ⟨z, rfl⟩, hbx⟩ := hcut
    replace hR : Hid (R = lex (lex (lex S (cmpL l l')) (cmpF fn fv fn' fv')) (icmp (l.length + fv.length) (l'.length + fv'.length))) := by
      show _ = _
      rw [hR.out, lex_assoc, lex_assoc]
    clear hT1
    generalize lex S (cmpL l l') = T at *
    go_upto_block 2 with fail
    go_cut [5, 7] from 62 to 107 (fun c i wx => c = .int .i64 (lex T (cmpF fn fv fn' fv')) ∧ (∃ z : Nat, i = .int .i64 z) ∧ Below ((w.alloc (.cells #[.int .i64 k, .int .i64 n, .string s, .slice la l.length lc, .slice fa fv.length fc] 52)).alloc (.cells #[.int .i64 k, .int .i64 n, .string s', .slice la' l'.length lc', .slice fa' fv'.length fc'] 52)).heap.size ((w.alloc (.cells #[.int .i64 k, .int .i64 n, .string s, .slice la l.length lc, .slice fa fv.length fc] 52)).alloc (.cells #[.int .i64 k, .int .i64 n, .string s', .slice la' l'.length lc', .slice fa' fv'.length fc'] 52)) wx)
    case first =>
      go_wp2_with fail
      go_loopg [5, 7] fv.length (fun g c i wr => ∃ (j : Nat) (C : Int), g + j = fv.length ∧ i = .int .i64 j ∧ c = .int .i64 C ∧ lex T (cmpF fn fv fn' fv') = lex C (cmpF (fn.drop j) (fv.drop j) (fn'.drop j) (fv'.drop j)) ∧ Below ((w.alloc (.cells #[.int .i64 k, .int .i64 n, .string s, .slice la l.length lc, .slice fa fv.length fc] 52)).alloc (.cells #[.int .i64 k, .int .i64 n, .string s', .slice la' l'.length lc', .slice fa' fv'.length fc'] 52)).heap.size ((w.alloc (.cells #[.int .i64 k, .int .i64 n, .string s, .slice la l.length lc, .slice fa fv.length fc] 52)).alloc (.cells #[.int .i64 k, .int .i64 n, .string s', .slice la' l'.length lc', .slice fa' fv'.length fc'] 52)) wr)
      case atStart => exact ⟨0, T, by omega, rfl, rfl, rfl, hbx⟩
      case round =>
        obtain ⟨j, C, hj, rfl, rfl, hT, hbr⟩ := hrel
        replace hT := hid hT
        obtain ⟨kA, kB⟩ := two_cells hbr
        have A4 := kA 4 _ rfl
        have B4 := kB 4 _ rfl
        clear kA kB
        by_cases c0 : C = 0
        case neg =>
          have b1 : (C == 0) = false := by simpa using c0
          have hq : Hid (lex T (cmpF fn fv fn' fv') = C) := hT.out.trans (lex_left c0 _)
          go_wp2_with fail
          go_meet
          exact ⟨by rw [hq.out], ⟨j, rfl⟩, hbr⟩
        subst c0
        by_cases c1 : j < fv.length
        case neg =>
          have hq : Hid (lex T (cmpF fn fv fn' fv') = 0) := by
            show _ = _
            rw [hT.out, List.drop_eq_nil_of_le (by omega : fv.length ≤ j), (cmpF_nil _ _ _).1]; rfl
          go_wp2_with fail
          go_meet
          exact ⟨by rw [hq.out], ⟨j, rfl⟩, hbr⟩
        by_cases c2 : j < fv'.length
        case neg =>
          have hq : Hid (lex T (cmpF fn fv fn' fv') = 0) := by
            show _ = _
            rw [hT.out, List.drop_eq_nil_of_le (by omega : fv'.length ≤ j), (cmpF_nil _ _ _).2.1]; rfl
          go_wp2_with fail
          go_meet
          exact ⟨by rw [hq.out], ⟨j, rfl⟩, hbr⟩
        have hbw := hid (hB0.out.step hbr)
        have hpr := hF.later hbw.out
        have hpr' := hF'.later hbw.out
        obtain ⟨x, hx⟩ : ∃ x, fv[j]? = some x := ⟨_, List.getElem?_eq_getElem c1⟩
        obtain ⟨y, hy⟩ : ∃ y, fv'[j]? = some y := ⟨_, List.getElem?_eq_getElem c2⟩
        have f1 : j < fn.length := by rw [hfl.out]; exact c1
        have f2 : j < fn'.length := by rw [hfl'.out]; exact c2
        obtain ⟨nx, hnx⟩ : ∃ nx, fn[j]? = some nx := ⟨_, List.getElem?_eq_getElem f1⟩
        obtain ⟨ny, hny⟩ : ∃ ny, fn'[j]? = some ny := ⟨_, List.getElem?_eq_getElem f2⟩
        obtain ⟨b, off, xs, rfl, hxS, hxc, hxr, _⟩ := hpr.at_ hnx hx
        obtain ⟨b', off', ys, rfl, hyS, hyc, hyr, _⟩ := hpr'.at_ hny hy
        have hxn := nodes_mem (List.mem_of_getElem? hx)
        have hfx := hmf.out x (List.mem_of_getElem? hx)
        have hfy := hmf'.out y (List.mem_of_getElem? hy)
        have hcx := hid (fun (p : Later wr) => ih x.nodes (by simp only [PVal.nodes]; omega) x rfl y p.x _ _ hfx hfy (hxr.later p.h) (hyr.later p.h))
        have hcs := hid (fun (p : Later wr) => rstrings_calls nx ny p.x)
        have hnext : Hid (lex T (cmpF fn fv fn' fv') = lex (lex (scmp nx ny) (cmpV x y)) (cmpF (fn.drop (j + 1)) (fv.drop (j + 1)) (fn'.drop (j + 1)) (fv'.drop (j + 1)))) := by
          show _ = _
          rw [hT.out, lex_right rfl, List.drop_eq_getElem_cons c1, List.drop_eq_getElem_cons c2, List.drop_eq_getElem_cons f1, List.drop_eq_getElem_cons f2, cmpF_cons]
          rw [List.getElem?_eq_getElem c1] at hx
          rw [List.getElem?_eq_getElem c2] at hy
          rw [List.getElem?_eq_getElem f1] at hnx
          rw [List.getElem?_eq_getElem f2] at hny
          rw [Option.some.inj hx, Option.some.inj hy, Option.some.inj hnx, Option.some.inj hny]
        generalize cmpV x y = C' at *
        generalize scmp nx ny = D' at *
        clear hx hy hfx hfy hnx hny f1 f2
        obtain ⟨xk, xn, xsx, xl, xfn, xfv⟩ := x
        obtain ⟨xla, xlc, xfa, xfc, rfl, _⟩ := hxr.inv
        obtain ⟨yk, yn, ysx, yl, yfn, yfv⟩ := y
        obtain ⟨yla, ylc, yfa, yfc, rfl, _⟩ := hyr.inv
        obtain ⟨e0, e1, e2, e3, e4, e5⟩ := six hxc
        obtain ⟨d0, d1, d2, d3, d4, d5⟩ := six hyc
        clear hxc hyc
        go_upto_region 15 with fail
        replace A4 := Later.cell A4
        replace B4 := Later.cell B4
        replace e0 := Later.cell e0
        replace e1 := Later.cell e1
        replace e2 := Later.cell e2
        replace e3 := Later.cell e3
        replace e4 := Later.cell e4
        replace e5 := Later.cell e5
        replace d0 := Later.cell d0
        replace d1 := Later.cell d1
        replace d2 := Later.cell d2
        replace d3 := Later.cell d3
        replace d4 := Later.cell d4
        replace d5 := Later.cell d5
        refine wp_later (by kernel_rfl) (by kernel_rfl) ?_
        repeat (go_big_quiet_step ((go_at_call 94; exact later_same _ (hcs.out _))))
        refine wpQuiet_nil ?_
        intro _ hw'
        obtain ⟨p, hp⟩ := hw'
        subst hp
        by_cases d9 : D' = 0
        · subst d9
          have hcx' := hid (fun (q : Later p.x) => hcx.out ⟨q.x, p.h.step q.h⟩)
          have A4' := A4 p
          have B4' := B4 p
          have e0' := e0 p
          have e1' := e1 p
          have e2' := e2 p
          have e3' := e3 p
          have e4' := e4 p
          have e5' := e5 p
          have d0' := d0 p
          have d1' := d1 p
          have d2' := d2 p
          have d3' := d3 p
          have d4' := d4 p
          have d5' := d5 p
          clear A4 B4 e0 e1 e2 e3 e4 e5 d0 d1 d2 d3 d4 d5
          go_upto_region 17 with fail
          replace A4' := Later.cell A4'
          replace B4' := Later.cell B4'
          replace e0' := Later.cell e0'
          replace e1' := Later.cell e1'
          replace e2' := Later.cell e2'
          replace e3' := Later.cell e3'
          replace e4' := Later.cell e4'
          replace e5' := Later.cell e5'
          replace d0' := Later.cell d0'
          replace d1' := Later.cell d1'
          replace d2' := Later.cell d2'
          replace d3' := Later.cell d3'
          replace d4' := Later.cell d4'
          replace d5' := Later.cell d5'
          refine wp_later (by kernel_rfl) (by kernel_rfl) ?_
          repeat (go_big_quiet_step ((go_at_call 52; exact later_calls _ (hcx'.out _))))
          refine wpQuiet_nil ?_
          intro _ hw''
          obtain ⟨q, hq⟩ := hw''
          subst hq
          clear A4' B4' e0' e1' e2' e3' e4' e5' d0' d1' d2' d3' d4' d5'
          go_wp2_with fail
          go_roundg (fv.length - (j + 1))
          case measure => omega
          case rel => exact ⟨j + 1, C', by omega, by go_num, rfl, by rw [hnext.out, lex_right rfl], hbr.step (p.h.step q.h)⟩
        · have b9 : (D' == 0) = false := by simpa using d9
          clear A4 B4 e0 e1 e2 e3 e4 e5 d0 d1 d2 d3 d4 d5
          go_wp2_with fail
          go_roundg (fv.length - (j + 1))
          case measure => omega
          case rel => exact ⟨j + 1, D', by omega, by go_num, rfl, by rw [hnext.out, lex_left d9], hbr.step p.h⟩
    case rest =>
      obtain ⟨rfl, ⟨z', rfl⟩, hby⟩ := hcut
      obtain ⟨kA, kB⟩ := two_cells hby
      have A3 := kA 3 _ rfl
      have B3 := kB 3 _ rfl
      have A4 := kA 4 _ rfl
      have B4 := kB 4 _ rfl
      clear kA kB
      generalize lex T (cmpF fn fv fn' fv') = U at *
      by_cases u0 : U = 0
      · replace hR := hid (hR.out.trans (lex_right u0 _))
        have b1 : (U != 0) = false := by simp [u0]
        have hc := hid (fun w => rcmp_calls (l.length + fv.length) (l'.length + fv'.length) w)
        generalize icmp (l.length + fv.length) (l'.length + fv'.length) = ic at *
        replace u0 := hid u0
        go_wp2_with fail
        refine (hc.out _).mono ?_
        rintro e w3 ⟨rfl, rfl⟩
        go_wp2_with fail
        go_ret
        exact ⟨by rw [hR.out]; rfl, hB0.out.step hby⟩
      · replace hR := hid (hR.out.trans (lex_left u0 _))
        have b1 : (U != 0) = true := by simp [u0]
        go_wp2_with fail
        go_ret
        exact ⟨by rw [hR.out]; rfl, hB0.out.step hby⟩
end Go.Proofs.YtdjegpmjhfbamaaDoor
