/-
  Walk: utf's Unquote.
-/
import Derived.Test.YtdjegpmjhfbamaaDoorUtf5
namespace Go.Proofs.YtdjegpmjhfbamaaDoor
open Go.RowKit Go.Proofs

theorem uq_mk (s : ByteArray) (out x5 : Value) (p : Nat) (a : Act) (h : uqF s out x5 p (fun i => a.tmps.getD i undef) = a) : ∃ v, a = uqF s out x5 p v := ⟨_, h.symm⟩
theorem uqJ_mk {s : ByteArray} {B : Nat} {w0 w : World} {R : Int × List UInt8} {g l : Nat} {a : Act} {out x5 : Value} {acc : List UInt8} {p : Nat} (hv : ∃ v, a = uqF s out x5 p v) (hb : Buf B 5 w0 w acc out) (ha : acc.length ≤ p)
    (hJ : ((l = 2 ∧ g = 5 * (s.size - p) + 4 ∧ p ≤ s.size ∧ Left s R p acc) ∨
     (l = 0 ∧ g = 0 ∧ p < s.size ∧ R = if s.data.toList.drop (p + 1) = [] then (0, acc) else (4, [])) ∨
     (l = 1 ∧ g = 5 * (s.size - p) + 3 ∧ p < s.size ∧ bt s p = 92 ∧ Left s R p acc) ∨
     (l = 3 ∧ g = 5 * (s.size - p) + 2 ∧ p + 1 < s.size ∧ bt s p = 92 ∧ bt s (p + 1) = 117 ∧ Left s R p acc) ∨
     (l = 4 ∧ ∃ q n, p = q + 6 ∧ acc.length ≤ q ∧ g = 5 * (s.size - q) + 1 ∧ q + 5 < s.size ∧ bt s q = 92 ∧ bt s (q + 1) = 117 ∧ x5 = .int .i32 ((n : Nat) : Int) ∧ fourP (s.data.toList.drop (q + 2)) = some n ∧ 55296 ≤ n ∧ n < 57344 ∧ Left s R q acc))) : UqJ s B w0 R g l a w := by
  obtain ⟨v, hv⟩ := hv
  exact ⟨out, x5, acc, p, v, hv, hb, ha, hJ⟩
theorem long_back (c : Nat) : longP c = backP c := rfl

set_option maxRecDepth 100000 in
set_option maxHeartbeats 64000000 in
theorem unquote_calls (s : ByteArray) (hs : s.size ≤ 35184372088832) (w : World) (hT : Tabs w) : Calls Tryd.prog 18 #[.string s] w (UqQ w (unqP s.data.toList)) := by
  have hT := hid (fun w' hb => Tabs.stays w w' hT hb)
  obtain ⟨R, hR⟩ : ∃ R, R = unqP s.data.toList := ⟨_, rfl⟩
  rw [← hR]
  have hll : Hid (s.data.toList.length = s.size) := by show _ = _; simp
  obtain ⟨i0, hP⟩ := byte8
  replace hR := hid hR
  go_enter Tryd.func18, Tryd.ntmps18
  go_wp2_with fail
  refine wp_scope_pass (UqJ s w.heap.size w R) ?_ ?_
  · rintro g l a' w' ⟨out, x5, acc, p, v, rfl, hbuf, hacc, hJ⟩
    rcases hJ with ⟨rfl, rfl, hp, hL⟩ | ⟨rfl, rfl, hp, hRe⟩ | ⟨rfl, rfl, hp, hb0, hL⟩ | ⟨rfl, rfl, hp, hb0, hb1, hL⟩ | ⟨rfl, q, n, rfl, hacc, rfl, hq, hb0, hb1, hx5, hf, hn0, hn1, hL⟩
    · -- part
      refine ⟨_, rfl, ?_⟩
      simp only [uqF]
      replace hL := hid hL
      replace hbuf := hid hbuf
      by_cases he : p = s.size
      · subst he
        have hRR : Hid (R = (4, [])) := hL.out.bad (e := 4) (b := []) (k := 0) (by rw [List.drop_eq_nil_of_le (by rw [hll.out]; exact Nat.le_refl _)]; rfl) (by decide) (by decide)
        go_wp2_with fail
        go_ret2
        exact ⟨by rw [hRR.out]; rfl, hbuf.out.below⟩
      have hlt : p < s.size := by omega
      have hne : ((p : Int) == (s.size : Int)) = false := by simp; omega
      clear he
      obtain ⟨x, hx, hxc⟩ := bt_get hlt
      have hb := bt_at s p hlt
      have hb8 := bt_lt s p
      generalize hbt : bt s p = c at *
      replace hx := hid hx
      replace hxc := hid hxc
      replace hbt := hid hbt
      by_cases c34 : c = 34
      · subst c34
        have hfin := hid (hL.out.fin (b := []) (k := 1) (by rw [hx.out, u8_of hxc.out (by omega)]; rfl))
        go_wp2_with fail
        go_step3
        exact ⟨0, by omega, uqJ_mk (uq_mk s out x5 p _ rfl) hbuf.out hacc (.inr (.inl ⟨rfl, rfl, hlt, hfin.out⟩))⟩
      have d34 : ((c : Int) == 34) = false := by simpa using (by omega : ¬ (c : Int) = 34)
      by_cases c92 : c = 92
      · subst c92
        go_wp2_with fail
        go_step3
        exact ⟨5 * (s.size - p) + 3, by omega, uqJ_mk (uq_mk s out x5 p _ rfl) hbuf.out hacc (.inr (.inr (.inl ⟨rfl, rfl, hlt, hbt.out, hL.out⟩)))⟩
      have d92 : ((c : Int) == 92) = false := by simpa using (by omega : ¬ (c : Int) = 92)
      have x34 : x ≠ 34 := fun e => c34 (by rw [← hxc.out, e]; rfl)
      have x92 : x ≠ 92 := fun e => c92 (by rw [← hxc.out, e]; rfl)
      clear c34 c92
      by_cases c32 : c < 32
      · have hRR : Hid (R = (4, [])) := hL.out.bad (by rw [hx.out]; exact part_low x34 x92 (by rw [hxc.out]; exact c32)) (by decide) (by decide)
        have i32 : (c : Int) < 32 := by omega
        clear x34 x92
        go_wp2_with fail
        go_ret2
        exact ⟨by rw [hRR.out]; rfl, hbuf.out.below⟩
      have i32 : ¬ (c : Int) < 32 := by omega
      have hz : (s.extract p s.size).size ≠ 0 := by
        rw [Lib.size_eq, ext_drop, List.length_drop, hll.out]; omega
      have hde := hid (fun w hT => Tryd.utf8_DecodeRuneInString (s.extract p s.size) w hT)
      rw [go_decode _ hz, ext_drop] at hde
      have hst := step_decode (s.data.toList.drop p)
      rw [hx.out] at hst
      have hDv := hid hst
      rw [← hx.out] at hst
      generalize hD : Lib.decodeL (s.data.toList.drop p) = D at *
      rw [← hx.out, hD] at hDv
      obtain ⟨dv, dz⟩ := D
      replace hD := hid hD
      by_cases hbad : dv = 65533 ∧ dz = 1
      · have hRR : Hid (R = (11, [])) := hL.out.bad (by
          rw [hx.out]
          refine part_bad x34 x92 (by rw [hxc.out]; exact c32) ?_
          rw [← hx.out]
          exact hDv.out.trans (if_pos hbad)) (by decide) (by decide)
        obtain ⟨rfl, rfl⟩ := hbad
        clear x34 x92 hz hst hDv
        go_wp2_with fail
        refine (hde.out _ (hT.out _ hbuf.out.below)).mono ?_
        rintro e w1 ⟨rfl, hb1⟩
        go_wp2_with fail
        go_ret2
        exact ⟨by rw [hRR.out]; rfl, (hbuf.out.later hb1).below⟩
      · have hsome : stepD (s.data.toList.drop p) = some (dv, dz) := hDv.out.trans (if_neg hbad)
        have hsz := stepD_some hsome (by rw [hx.out]; simp)
        rw [List.length_drop, hll.out] at hsz
        have hpz : p + dz ≤ s.size := by omega
        have hpz' : (p : Int) + (dz : Int) ≤ (s.size : Int) := by omega
        have hz4 : dz ≤ 4 := by omega
        have hpq : (p : Int) ≤ (p : Int) + (dz : Int) := by omega
        have hp0 : (0 : Int) ≤ (p : Int) := by omega
        have hz1 : 1 ≤ dz := by omega
        have hpart : Hid (partP (s.data.toList.drop p) = (0, (s.data.toList.drop p).take dz, dz)) := by
          show _ = _
          rw [hx.out]
          refine part_ok x34 x92 (by rw [hxc.out]; exact c32) (v := dv) ?_
          rw [← hx.out]
          exact hsome
        have htl : ((s.data.toList.drop p).take dz).length = dz := by rw [List.length_take, List.length_drop, hll.out]; omega
        have htx := hid (take_ext s p dz)
        have hts : (s.extract p (p + dz)).size = dz := by rw [Lib.size_eq, htx.out, htl]
        replace htl := hid htl
        replace hts := hid hts
        clear x34 x92 hz hst hDv hsome
        have hfin : Hid (∀ (v' : Value) (w1 : World) (a : Act), Buf w.heap.size 5 w w1 (acc ++ (s.extract p (p + dz)).data.toList) v' → (∃ u, a = uqF s v' (.int .i32 (dv : Int)) (p + dz) u) → ∃ g', g' < 5 * (s.size - p) + 4 ∧ UqJ s w.heap.size w R g' 2 a w1) := by
          rintro v' w1 a hv' ⟨u, hu⟩
          rw [htx.out] at hv'
          exact ⟨5 * (s.size - (p + dz)) + 4, by omega, v', _, _, p + dz, u, hu, hv', by rw [List.length_append, htl.out]; omega, .inl ⟨rfl, rfl, by omega, hL.out.next hpart.out (by omega) (by omega)⟩⟩
        have hbd : (dv : Int) = 65533 → ((dz : Int) == 1) = false := fun e => by simp; omega
        have hcat : acc.length + (s.extract p (p + dz)).size ≤ 140737488355328 := by rw [hts.out]; omega
        by_cases hv : dv = 65533
        · subst hv
          have hdz : ((dz : Int) == 1) = false := hbd rfl
          clear hbad hbd
          go_wp2_with fail
          refine (hde.out _ (hT.out _ hbuf.out.below)).mono ?_
          rintro e w1 ⟨rfl, hb1⟩
          have hbuf1 := hid (hbuf.out.later hb1)
          go_wp2_with (first
            | (at_builtin; (refine wpList_buf_text rfl _ _ rfl hP Tryd.underlying9 rfl hbuf1.out (s.extract p (p + dz)) rfl hcat ?_); intro v2 w2 hb2; replace hb2 := hid hb2))
          go_step3
          exact hfin.out _ _ _ hb2.out (uq_mk s v2 _ (p + dz) _ rfl)
        · have hvv : ((dv : Int) == 65533) = false := by simpa using (by omega : ¬ (dv : Int) = 65533)
          clear hbad hbd hv
          go_wp2_with fail
          refine (hde.out _ (hT.out _ hbuf.out.below)).mono ?_
          rintro e w1 ⟨rfl, hb1⟩
          have hbuf1 := hid (hbuf.out.later hb1)
          go_wp2_with (first
            | (at_builtin; (refine wpList_buf_text rfl _ _ rfl hP Tryd.underlying9 rfl hbuf1.out (s.extract p (p + dz)) rfl hcat ?_); intro v2 w2 hb2; replace hb2 := hid hb2))
          go_step3
          exact hfin.out _ _ _ hb2.out (uq_mk s v2 _ (p + dz) _ rfl)
    · -- end
      refine ⟨_, rfl, ?_⟩
      simp only [uqF]
      replace hbuf := hid hbuf
      replace hRe := hid hRe
      by_cases he : p + 1 = s.size
      · have hRR : Hid (R = (0, acc)) := by
          show _ = _
          rw [hRe.out, if_pos (List.drop_eq_nil_of_le (by rw [hll.out]; omega))]
        have hle : (s.size : Int) ≤ (p : Int) + 1 := by omega
        have hcv := conv_buf (P := Tryd.prog) Tryd.underlying45 Tryd.underlying5 Tryd.underlying9 hbuf.out
        go_wp2_with fail
        go_ret2
        exact ⟨by rw [hRR.out]; rfl, hbuf.out.below⟩
      · have hRR : Hid (R = (4, [])) := by
          show _ = _
          rw [hRe.out, if_neg (fun h => ?_)]
          have := congrArg List.length h
          rw [List.length_drop, hll.out] at this
          simp at this
          omega
        have hlt : (p : Int) + 1 < (s.size : Int) := by omega
        go_wp2_with fail
        go_ret2
        exact ⟨by rw [hRR.out]; rfl, hbuf.out.below⟩
    · -- escape
      refine ⟨_, rfl, ?_⟩
      simp only [uqF]
      replace hbuf := hid hbuf
      replace hL := hid hL
      obtain ⟨x, hx, hxc⟩ := bt_get hp
      rw [u8_of (hxc.trans hb0) (by omega)] at hx
      replace hx := hid hx
      replace hb0 := hid hb0
      clear hxc
      by_cases he : p + 1 = s.size
      · have hRR : Hid (R = (4, [])) := hL.out.bad (k := 0) (b := []) (by rw [hx.out, List.drop_eq_nil_of_le (by rw [hll.out]; omega)]; rfl) (by decide) (by decide)
        have hle : ((p : Int) + 1 == (s.size : Int)) = true := by simp; omega
        clear he
        go_wp2_with fail
        go_ret2
        exact ⟨by rw [hRR.out]; rfl, hbuf.out.below⟩
      have hle : ((p : Int) + 1 == (s.size : Int)) = false := by simp; omega
      have hp1 : p + 1 < s.size := by omega
      have hp1' : (p : Int) + 1 < (s.size : Int) := by omega
      have hp0' : (0 : Int) ≤ (p : Int) + 1 := by omega
      clear he
      obtain ⟨y, hy, hyc⟩ := bt_get hp1
      have hb := bt_at s (p + 1) hp1
      have hb8 := bt_lt s (p + 1)
      generalize hbt : bt s (p + 1) = d at *
      replace hy := hid hy
      replace hyc := hid hyc
      replace hbt := hid hbt
      by_cases d117 : d = 117
      · subst d117
        go_wp2_with fail
        go_step3
        exact ⟨5 * (s.size - p) + 2, by omega, uqJ_mk (uq_mk s out x5 p _ rfl) hbuf.out hacc (.inr (.inr (.inr (.inl ⟨rfl, rfl, hp1, hb0.out, hbt.out, hL.out⟩))))⟩
      have e117 : ((d : Int) == 117) = false := by simpa using (by omega : ¬ (d : Int) = 117)
      have y117 : y ≠ 117 := fun e => d117 (by rw [← hyc.out, e]; rfl)
      have hlo := hid (fun w => ulong_calls d hb8 w)
      have hlb : Hid (longP d = backP y.toNat) := by show _ = _; rw [hyc.out]; rfl
      cases hlp : longP d with
      | none =>
        rw [hlp] at hlo hlb
        have hRR : Hid (R = (4, [])) := hL.out.bad (k := 0) (b := []) (by rw [hx.out, hy.out]; exact part_no hlb.out.symm y117) (by decide) (by decide)
        clear hlp d117 y117
        go_wp2_with fail
        refine (hlo.out _).mono ?_
        rintro e w1 ⟨rfl, rfl⟩
        go_wp2_with fail
        go_ret2
        exact ⟨by rw [hRR.out]; rfl, hbuf.out.below⟩
      | some z =>
        rw [hlp] at hlo hlb
        have hz256 : z < 256 := by
          unfold longP at hlp
          repeat' split at hlp
          all_goals (first | (injection hlp with hlp; omega) | cases hlp)
        have hpart : Hid (partP (s.data.toList.drop p) = (0, [UInt8.ofNat z], 2)) := by show _ = _; rw [hx.out, hy.out]; exact part_letter hlb.out.symm
        have hzz : Hid ((z : Int) = ((UInt8.ofNat z).toNat : Int)) := by show _ = _; simp; omega
        clear hlp d117 y117
        go_wp2_with fail
        refine (hlo.out _).mono ?_
        rintro e w1 ⟨rfl, rfl⟩
        go_wp2_with (first
          | (at_builtin; (refine wpList_buf_made rfl _ _ rfl hP rfl (hbuf.out.later (below_new _ _)) [UInt8.ofNat z] w'.heap.size _ _ rfl rfl (src_new [UInt8.ofNat z] _ (by simp [bcells]; omega) rfl) (by simp; omega) ?_); intro v2 w2 hb2; replace hb2 := hid hb2))
        go_step3
        exact ⟨5 * (s.size - (p + 2)) + 4, by omega, uqJ_mk (uq_mk s v2 x5 (p + 2) _ rfl) hb2.out (by simp; omega) (.inl ⟨rfl, rfl, by omega, hL.out.next hpart.out (by omega) (by omega)⟩)⟩
    · -- number
      refine ⟨_, rfl, ?_⟩
      simp only [uqF]
      replace hbuf := hid hbuf
      replace hL := hid hL
      obtain ⟨x, hx, hxc⟩ := bt_get (show p < s.size by omega)
      rw [u8_of (hxc.trans hb0) (by omega)] at hx
      obtain ⟨y, hy, hyc⟩ := bt_get hp
      rw [u8_of (hyc.trans hb1) (by omega)] at hy
      have hxy : Hid (s.data.toList.drop p = 92 :: 117 :: s.data.toList.drop (p + 2)) := by show _ = _; rw [hx, hy]; rfl
      replace hb0 := hid hb0
      replace hb1 := hid hb1
      clear hx hy hxc hyc
      have hp2 : (p : Int) + 2 ≤ (s.size : Int) := by omega
      have hp20 : (0 : Int) ≤ (p : Int) + 2 := by omega
      have hfo := hid (fun w => four_calls (s.extract (p + 2) s.size) (by rw [Lib.size_eq, ext_drop, List.length_drop, hll.out]; omega) w)
      rw [ext_drop] at hfo
      cases hf : fourP (s.data.toList.drop (p + 2)) with
      | none =>
        rw [hf] at hfo
        have hRR : Hid (R = (4, [])) := hL.out.bad (k := 0) (b := []) (by rw [hxy.out, part_u, hf]) (by decide) (by decide)
        clear hf
        go_wp2_with fail
        refine (hfo.out _).mono ?_
        rintro e w1 ⟨rfl, rfl⟩
        go_wp2_with fail
        go_ret2
        exact ⟨by rw [hRR.out]; rfl, hbuf.out.below⟩
      | some n =>
        rw [hf] at hfo
        have hfl := four_len hf
        have hn16 := four_lt hf
        rw [List.length_drop, hll.out] at hfl
        have hp6 : p + 6 ≤ s.size := by omega
        replace hf := hid hf
        obtain ⟨N, hN⟩ : ∃ N : Int, N = (n : Int) := ⟨_, rfl⟩
        have hfo' : Hid (∀ w, Calls Tryd.prog 68 #[.string (s.extract (p + 2) s.size)] w fun e w' => e = .returned (.tuple #[.int .i32 N, .bool true]) ∧ w = w') := by rw [hN]; exact hfo.out
        clear hfo
        by_cases hsur : 55296 ≤ n ∧ n < 57344
        · obtain ⟨hn0, hn1⟩ := hsur
          have i0 : (55296 : Int) ≤ N := by omega
          have i1 : N < 57344 := by omega
          replace hN := hid hN
          clear hfl
          go_wp2_with fail
          refine (hfo'.out _).mono ?_
          rintro e w1 ⟨rfl, rfl⟩
          go_wp2_with fail
          go_step3
          exact ⟨5 * (s.size - p) + 1, by omega, uqJ_mk (uq_mk s out (.int .i32 N) (p + 6) _ rfl) hbuf.out (by omega) (.inr (.inr (.inr (.inr ⟨rfl, p, n, rfl, hacc, rfl, by omega, hb0.out, hb1.out, by rw [hN.out], hf.out, hn0, hn1, hL.out⟩))))⟩
        · have hpart : Hid (partP (s.data.toList.drop p) = (0, Lib.encodeRune (n : Int), 6)) := by show _ = _; rw [hxy.out, part_u, hf.out]; simp only; rw [if_neg hsur]
          have hel := hid (Lib.encodeRuneZ_length (n : Int))
          rw [← enc_len] at hel
          clear hfl
          by_cases hn0 : n < 55296
          · have i0 : N < 55296 := by omega
            have j0 : 0 ≤ N := by omega
            replace hN := hid hN
            clear hsur
            go_wp2_with fail
            refine (hfo'.out _).mono ?_
            rintro e w1 ⟨rfl, rfl⟩
            go_wp2_with fail
            refine (arune_calls hbuf.out N (by omega) (by omega) (by omega)).mono ?_
            rintro e w2 ⟨v2, rfl, hb2⟩
            rw [hN.out] at hb2
            replace hb2 := hid hb2
            go_wp2_with fail
            go_step3
            exact ⟨5 * (s.size - (p + 6)) + 4, by omega, uqJ_mk (uq_mk s v2 _ (p + 6) _ rfl) hb2.out (by have := hel.out; rw [List.length_append]; omega) (.inl ⟨rfl, rfl, by omega, hL.out.next hpart.out (by omega) (by omega)⟩)⟩
          · have i0 : (55296 : Int) ≤ N := by omega
            have i1 : (57344 : Int) ≤ N := by omega
            have j1 : N < 65536 := by omega
            replace hN := hid hN
            clear hsur
            go_wp2_with fail
            refine (hfo'.out _).mono ?_
            rintro e w1 ⟨rfl, rfl⟩
            go_wp2_with fail
            refine (arune_calls hbuf.out N (by omega) (by omega) (by omega)).mono ?_
            rintro e w2 ⟨v2, rfl, hb2⟩
            rw [hN.out] at hb2
            replace hb2 := hid hb2
            go_wp2_with fail
            go_step3
            exact ⟨5 * (s.size - (p + 6)) + 4, by omega, uqJ_mk (uq_mk s v2 _ (p + 6) _ rfl) hb2.out (by have := hel.out; rw [List.length_append]; omega) (.inl ⟨rfl, rfl, by omega, hL.out.next hpart.out (by omega) (by omega)⟩)⟩
    · -- half
      refine ⟨_, rfl, ?_⟩
      simp only [uqF]
      replace hbuf := hid hbuf
      replace hL := hid hL
      obtain ⟨x, hx, hxc⟩ := bt_get (show q < s.size by omega)
      rw [u8_of (hxc.trans hb0) (by omega)] at hx
      obtain ⟨y, hy, hyc⟩ := bt_get (show q + 1 < s.size by omega)
      rw [u8_of (hyc.trans hb1) (by omega)] at hy
      have hxy : s.data.toList.drop q = 92 :: 117 :: s.data.toList.drop (q + 2) := by rw [hx, hy]; rfl
      have hpart0 : Hid _ := hid (congrArg partP hxy |>.trans (part_u _))
      rw [hf] at hpart0
      simp only [hn0, hn1, and_self, if_true, List.drop_drop] at hpart0
      clear hx hy hxc hyc hxy hb0 hb1 hf
      obtain ⟨N, hN⟩ : ∃ N : Int, N = (n : Int) := ⟨_, rfl⟩
      rw [← hN] at hx5
      subst hx5
      have i0 : (55296 : Int) ≤ N := by omega
      have i1 : N < 57344 := by omega
      by_cases hbig : 56320 ≤ n
      · have hRR : Hid (R = (11, [])) := hL.out.bad (hpart0.out.trans (if_neg (fun h => by omega))) (by decide) (by decide)
        have i2 : (56320 : Int) ≤ N := by omega
        replace hN := hid hN
        clear hpart0
        go_wp2_with fail
        go_ret2
        exact ⟨by rw [hRR.out]; rfl, hbuf.out.below⟩
      have i2 : N < 56320 := by omega
      replace hN := hid hN
      have hq6 : (q : Int) + 6 ≤ (s.size : Int) := by omega
      have hq60 : (0 : Int) ≤ (q : Int) + 6 := by omega
      have hpr := hid (fun w => Tryd.strings_HasPrefix (s.extract (q + 6) s.size) ⟨#[92, 117]⟩ w)
      rw [ext_drop] at hpr
      cases hpre : Lib.hasPrefix (s.data.toList.drop (q + 6)) [92, 117] with
      | false =>
        have hpr' : Hid (∀ w, Calls Tryd.prog 70 #[.string (s.extract (q + 6) s.size), .string ⟨#[92, 117]⟩] w fun e w' => e = .returned (.bool false) ∧ w' = w) := by
          have := hpr.out
          rw [show (⟨#[92, 117]⟩ : ByteArray).data.toList = [92, 117] from rfl, hpre] at this
          exact this
        have hRR : Hid (R = (11, [])) := hL.out.bad (hpart0.out.trans (if_neg (fun h => by rw [(pre_take _).2 h.2] at hpre; cases hpre))) (by decide) (by decide)
        clear hpart0 hpr hpre
        go_wp2_with fail
        refine (hpr'.out _).mono ?_
        rintro e w1 ⟨rfl, rfl⟩
        go_wp2_with fail
        go_ret2
        exact ⟨by rw [hRR.out]; rfl, hbuf.out.below⟩
      | true =>
        have hpr' : Hid (∀ w, Calls Tryd.prog 70 #[.string (s.extract (q + 6) s.size), .string ⟨#[92, 117]⟩] w fun e w' => e = .returned (.bool true) ∧ w' = w) := by
          have := hpr.out
          rw [show (⟨#[92, 117]⟩ : ByteArray).data.toList = [92, 117] from rfl, hpre] at this
          exact this
        have htk := (pre_take _).1 hpre
        have hq8 : q + 8 ≤ s.size := by
          have := congrArg List.length htk
          rw [List.length_take, List.length_drop, hll.out] at this
          simp at this
          omega
        have hpart1 := hid (hpart0.out.trans (if_pos ⟨by omega, htk⟩))
        clear hpart0 hpr hpre htk
        have hq8' : (q : Int) + 6 + 2 ≤ (s.size : Int) := by omega
        have hq80 : (0 : Int) ≤ (q : Int) + 6 + 2 := by omega
        have hq8'' : (q : Int) + 8 ≤ (s.size : Int) := by omega
        have hq80' : (0 : Int) ≤ (q : Int) + 8 := by omega
        have hfo := hid (fun w => four_calls (s.extract (q + 6 + 2) s.size) (by rw [Lib.size_eq, ext_drop, List.length_drop, hll.out]; omega) w)
        rw [ext_drop] at hfo
        cases hf : fourP (s.data.toList.drop (q + 6 + 2)) with
        | none =>
          rw [hf] at hfo
          have hRR : Hid (R = (11, [])) := hL.out.bad (by rw [hpart1.out, show q + 2 + 6 = q + 6 + 2 by omega, hf]) (by decide) (by decide)
          clear hf hpart1
          go_wp2_with fail
          refine (hpr'.out _).mono ?_
          rintro e w1 ⟨rfl, rfl⟩
          go_wp2_with fail
          refine (hfo.out _).mono ?_
          rintro e w1 ⟨rfl, rfl⟩
          go_wp2_with fail
          go_ret2
          exact ⟨by rw [hRR.out]; rfl, hbuf.out.below⟩
        | some m =>
          rw [hf] at hfo
          obtain ⟨M, hM⟩ : ∃ M : Int, M = (m : Int) := ⟨_, rfl⟩
          have hfo' : Hid (∀ w, Calls Tryd.prog 68 #[.string (s.extract (q + 6 + 2) s.size)] w fun e w' => e = .returned (.tuple #[.int .i32 M, .bool true]) ∧ w = w') := by rw [hM]; exact hfo.out
          clear hfo
          have hfl := four_len hf
          have hm16 := four_lt hf
          rw [List.length_drop, hll.out] at hfl
          have hp12 : q + 12 ≤ s.size := by omega
          rw [show q + 2 + 6 = q + 6 + 2 by omega, hf] at hpart1
          simp only at hpart1
          clear hf hfl
          by_cases hrng : 56320 ≤ m ∧ m < 57344
          · have hpart := hid (hpart1.out.trans (if_pos hrng))
            obtain ⟨hm0, hm1⟩ := hrng
            clear hpart1
            have j0 : (56320 : Int) ≤ M := by omega
            have j1 : M < 57344 := by omega
            replace hM := hid hM
            have hel := hid (Lib.encodeRuneZ_length ((65536 + (n - 55296) * 1024 + (m - 56320) : Nat) : Int))
            rw [← enc_len] at hel
            go_wp2_with fail
            refine (hpr'.out _).mono ?_
            rintro e w1 ⟨rfl, rfl⟩
            go_wp2_with fail
            refine (hfo'.out _).mono ?_
            rintro e w1 ⟨rfl, rfl⟩
            go_wp2_with fail
            refine (arune_calls hbuf.out (65536 + (N - 55296) * 1024 + (M - 56320)) (by omega) (by omega) (by omega)).mono ?_
            rintro e w2 ⟨v2, rfl, hb2⟩
            rw [show (65536 + (N - 55296) * 1024 + (M - 56320)) = ((65536 + (n - 55296) * 1024 + (m - 56320) : Nat) : Int) by rw [hN.out, hM.out]; omega] at hb2
            have hnx := hid (hL.out.next hpart.out (by omega) hp12)
            replace hb2 := hid hb2
            go_wp2_with fail
            go_step3
            exact ⟨5 * (s.size - (q + 12)) + 4, by omega, uqJ_mk (uq_mk s v2 (.int .i32 N) (q + 6 + 6) _ rfl) hb2.out (by have := hel.out; rw [List.length_append]; omega) (.inl ⟨rfl, rfl, hp12, hnx.out⟩)⟩
          · have hRR : Hid (R = (11, [])) := hL.out.bad (hpart1.out.trans (if_neg hrng)) (by decide) (by decide)
            clear hpart1
            by_cases hm0 : m < 56320
            · have j0 : M < 56320 := by omega
              replace hM := hid hM
              clear hrng
              go_wp2_with fail
              refine (hpr'.out _).mono ?_
              rintro e w1 ⟨rfl, rfl⟩
              go_wp2_with fail
              refine (hfo'.out _).mono ?_
              rintro e w1 ⟨rfl, rfl⟩
              go_wp2_with fail
              go_ret2
              exact ⟨by rw [hRR.out]; rfl, hbuf.out.below⟩
            · have j0 : (56320 : Int) ≤ M := by omega
              have j1 : (57344 : Int) ≤ M := by omega
              replace hM := hid hM
              clear hrng
              go_wp2_with fail
              refine (hpr'.out _).mono ?_
              rintro e w1 ⟨rfl, rfl⟩
              go_wp2_with fail
              refine (hfo'.out _).mono ?_
              rintro e w1 ⟨rfl, rfl⟩
              go_wp2_with fail
              go_ret2
              exact ⟨by rw [hRR.out]; rfl, hbuf.out.below⟩
  · intro pass
    replace pass := hid pass
    by_cases h0 : s.size = 0
    · have e0 := (empty_iff s).2 h0
      have hRR : Hid (R = (4, [])) := by
        show _ = _
        rw [hR.out, show s.data.toList = [] from List.eq_nil_of_length_eq_zero (by rw [hll.out]; exact h0)]; rfl
      have e1 : s.toList.isEmpty = true := by rw [e0]; rfl
      clear h0
      replace e0 := hid e0
      go_wp2_with fail
      go_ret2
      exact ⟨by rw [hRR.out]; rfl, Below.refl _ _⟩
    have e1 : s.toList.isEmpty = false := by
      cases he : s.toList.isEmpty with
      | false => rfl
      | true => exact absurd ((empty_iff s).1 (List.isEmpty_iff.1 he)) h0
    have hp0 : 0 < s.size := by omega
    have hp0' : (0 : Int) < (s.size : Int) := by omega
    obtain ⟨x, hx, hxc⟩ := bt_get hp0
    have hb := bt_at s 0 hp0
    have hb8 := bt_lt s 0
    generalize hbt : bt s 0 = c at *
    rw [List.drop_zero] at hx
    replace hx := hid hx
    replace hxc := hid hxc
    replace hbt := hid hbt
    clear h0
    by_cases c34 : c = 34
    · subst c34
      have hJ : Hid (∀ a, (∃ v, a = uqF s (.slice none 0 0) (.int .i32 0) 1 v) → UqJ s w.heap.size w R (5 * (s.size - 1) + 4) 2 a w) := fun a ha => by
        refine uqJ_mk ha (Buf.nil (Below.refl _ _) (Nat.le_refl _)) (by simp) (.inl ⟨rfl, rfl, by omega, (s.data.toList.drop 1).length + 1, by rw [List.length_drop, hll.out]; omega, ?_⟩)
        rw [hR.out]
        conv => rhs; rw [hx.out, u8_of hxc.out (by omega)]
        unfold unqP
        simp only
        rw [if_pos (show UInt8.ofNat 34 = 34 from rfl)]
      go_wp2_with fail
      go_step3
      rename_i K hK
      refine hK _ _ (pass_use rfl (pass.out (5 * (s.size - 1) + 4) 2 _ _ (hJ.out _ ?_)))
      exact uq_mk s (.slice none 0 0) (.int .i32 0) 1 _ rfl
    · have e34 : ((c : Int) == 34) = false := by simpa using (by omega : ¬ (c : Int) = 34)
      have e34' : ((c : Int) != 34) = true := by simpa using (by omega : ¬ (c : Int) = 34)
      have hRR : Hid (R = (4, [])) := by
        show _ = _
        rw [hR.out, hx.out]
        unfold unqP
        simp only
        rw [if_neg (fun e => c34 (by rw [← hxc.out, e]; rfl))]
      clear c34
      go_wp2_with fail
      go_ret2
      exact ⟨by rw [hRR.out]; rfl, Below.refl _ _⟩
end Go.Proofs.YtdjegpmjhfbamaaDoor
