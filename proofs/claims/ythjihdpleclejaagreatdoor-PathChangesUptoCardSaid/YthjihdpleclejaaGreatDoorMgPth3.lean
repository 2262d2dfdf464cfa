/-
  Walks: the document's steps of a path: place, letter, IsStep, Steps.
-/
import Derived.Test.YthjihdpleclejaaGreatDoorMgPthP
namespace Go.Proofs.YthjihdpleclejaaGreatDoor
open Go.RowKit Go.Proofs
theorem str_at {s : ByteArray} {j : Nat} {c : UInt8} (h : s.data.toList[j]? = some c) : s.data[j]? = some c ∧ ∀ h : j < s.size, s[j]'h = c :=
 ⟨by rw [← Array.getElem?_toList]; exact h, fun hj => by
  have := byte_at hj
  rw [h] at this
  injection this with this
  exact this.symm⟩
theorem str_has {s : ByteArray} {j : Nat} (h : j < s.size) : ∃ c, s.data.toList[j]? = some c := ⟨_, byte_at h⟩
def placeZ (s : ByteArray) : Int := match place s with
 | some n => n
 | none => -1
set_option maxRecDepth 100000 in
set_option maxHeartbeats 2000000 in
theorem rplace_calls (s : ByteArray) (w : World) (hs : s.size ≤ 140737488355328) :
  Calls Tryz.prog 63 #[.string s] w fun e w' => e = .returned (.int .i64 (placeZ s)) ∧ w' = w := by
 have hln := hid (fun (h : s.data.toList.all digB = true) => place_end h)
 have hnt := hid (fun (pos : Nat) (c : UInt8) h hc => place_not (s := s) (pos := pos) (c := c) h hc)
 have hlg := hid (fun h => place_long (s := s) h)
 have hem := hid (fun (h : s.size = 0) => (show place s = none from by unfold place; rw [List.length_eq_zero_iff.1 (show s.data.toList.length = 0 from by rw [bsz_list]; exact h)]; rfl))
 have h48 := hid (fun (h2 : s.size = 2) (h0 : s.data.toList[0]? = some 48) => (show place s = none from by
  cases hp : place s with
  | none => rfl
  | some m =>
   have hd := (place_dig hp).1
   rw [place_end hd, if_neg (by rintro (h | ⟨_, h⟩); omega; exact h h0)] at hp
   cases hp))
 unfold placeZ
 obtain ⟨R, hR⟩ : ∃ R, R = place s := ⟨_, rfl⟩
 rw [← hR] at hln hnt hlg hem h48 ⊢
 clear hR
 obtain ⟨n, hn⟩ : ∃ n, n = s.size := ⟨_, rfl⟩
 by_cases h0 : s.size = 0
 ·have h0i : (s.size : Int) < 1 := by omega
  have hr := hem.out h0
  subst hr
  go_enter Tryz.func63, Tryz.ntmps63
  go_wp2_with fail
  go_ret
  exact ⟨rfl, rfl⟩
 have h0i : ¬ (s.size : Int) < 1 := by omega
 by_cases h3 : 2 < s.size
 ·have h3i : (2 : Int) < (s.size : Int) := by omega
  have hr := hlg.out h3
  subst hr
  go_enter Tryz.func63, Tryz.ntmps63
  go_wp2_with fail
  go_ret
  exact ⟨rfl, rfl⟩
 have h3i : ¬ (2 : Int) < (s.size : Int) := by omega
 have hloop : ∀ (hgo : Prop) (h : hgo) (hend : s.data.toList.all digB = true → R = some (valD s.data.toList)), True := fun _ _ _ => trivial
 clear hloop
 obtain ⟨c0, hc0⟩ := str_has (s := s) (j := 0) (by omega)
 obtain ⟨q0, q1⟩ := str_at hc0
 by_cases hbad : s.size = 2 ∧ c0 = 48
 ·obtain ⟨h2, rfl⟩ := hbad
  have h2i : ((s.size : Int) == 2) = true := beq_iff_eq.2 (by omega)
  have hr := h48.out h2 hc0
  subst hr
  go_enter Tryz.func63, Tryz.ntmps63
  go_wp2_with fail
  go_ret
  exact ⟨rfl, rfl⟩
 have hfin : Hid (s.data.toList.all digB = true → R = some (valD s.data.toList)) := fun h => by
  rw [hln.out h]
  refine if_pos ?_
  by_cases h1 : s.size = 1
  ·exact .inl h1
  ·refine .inr ⟨by omega, fun e => hbad ⟨by omega, ?_⟩⟩
   rw [hc0] at e
   injection e
 clear hln hlg hem h48 hn
 by_cases h2 : s.size = 2
 ·have h2i : ((s.size : Int) == 2) = true := beq_iff_eq.2 (by omega)
  have hn48 : ((c0.toNat : Int) == 48) = false := beq_false_of_ne (fun e => hbad ⟨h2, UInt8.toNat_inj.1 (by show c0.toNat = 48; omega)⟩)
  clear hbad hc0 h0 h3
  go_enter Tryz.func63, Tryz.ntmps63
  go_wp2_with fail
  clear q0 q1 hn48 h2i h0i h3i
  go_loopg [3, 4] s.size (fun g n i wr => ∃ (j m : Nat), g + j = s.size ∧ n = .int .i64 m ∧ i = .int .i64 j ∧ m = valD (s.data.toList.take j) ∧ (s.data.toList.take j).all digB = true ∧ wr = w)
  case atStart => exact ⟨0, 0, by omega, rfl, rfl, by simp [valD], by simp, rfl⟩
  case round =>
   obtain ⟨j, m, hg, rfl, rfl, hm, hall, rfl⟩ := hrel
   have hm9 : m ≤ 99 := by rw [hm]; exact valD_small hall (by rw [List.length_take, bsz_list]; omega)
   replace hm := hid hm
   replace hall := hid hall
   by_cases hlt : j < s.size
   ·obtain ⟨c, hc⟩ := str_has hlt
    obtain ⟨p0, p1⟩ := str_at hc
    have htk := hid (take_succ_of hc)
    replace hc := hid hc
    by_cases hdc : digB c = true
    ·have hcr := digB_le hdc
     have d1 : ¬ (c.toNat : Int) < 48 := by omega
     have d2 : ¬ (57 : Int) < (c.toNat : Int) := by omega
     have e1 : IntKind.i64.wrap ((m : Int) * 10) = (m : Int) * 10 := by rw [IntKind.wrap_i64]; omega
     have e2 : IntKind.i64.wrap (c.toNat : Int) = (c.toNat : Int) := by rw [IntKind.wrap_i64]; omega
     have e3 : IntKind.i64.wrap ((m : Int) * 10 + (c.toNat : Int)) = (m : Int) * 10 + (c.toNat : Int) := by rw [IntKind.wrap_i64]; omega
     have e4 : IntKind.i64.wrap ((m : Int) * 10 + (c.toNat : Int) - 48) = ((10 * m + (c.toNat - 48) : Nat) : Int) := by rw [IntKind.wrap_i64]; omega
     have hv2 : Hid (10 * m + (c.toNat - 48) = valD (s.data.toList.take (j + 1))) := by show _ = _; rw [htk.out, valD_snoc, ← hm.out]
     obtain ⟨m2, hm2⟩ : ∃ m2, m2 = 10 * m + (c.toNat - 48) := ⟨_, rfl⟩
     rw [← hm2] at e4 hv2
     clear hm2 hcr
     go_wp2_with fail
     go_roundg (s.size - (j + 1))
     case measure => omega
     case rel => exact ⟨j + 1, m2, by omega, rfl, by go_num, hv2.out, by rw [htk.out, List.all_append, hall.out]; simp [hdc], rfl⟩
    ·have hr := hnt.out j c hc.out (by simpa using hdc)
     subst hr
     by_cases d1 : (c.toNat : Int) < 48
     ·go_wp2_with fail
      go_ret
      exact ⟨rfl, rfl⟩
     ·have d2 : (57 : Int) < (c.toNat : Int) := by
       simp only [digB, Bool.and_eq_true, decide_eq_true_eq] at hdc
       omega
      go_wp2_with fail
      go_ret
      exact ⟨rfl, rfl⟩
   ·have hfull : s.data.toList.take j = s.data.toList := List.take_of_length_le (by rw [bsz_list]; omega)
    have hr := hfin.out (by rw [← hfull]; exact hall.out)
    rw [← hfull, ← hm.out] at hr
    subst hr
    clear hfull hm hall
    go_wp2_with fail
    go_ret
    exact ⟨rfl, rfl⟩
 ·have h2i : ((s.size : Int) == 2) = false := beq_false_of_ne (by omega)
  have hs2 := hid (show s.size ≤ 2 by omega)
  clear hbad hc0 h0 h3
  go_enter Tryz.func63, Tryz.ntmps63
  go_wp2_with fail
  clear q0 q1 h2i h0i h3i
  go_loopg [3, 4] s.size (fun g n i wr => ∃ (j m : Nat), g + j = s.size ∧ n = .int .i64 m ∧ i = .int .i64 j ∧ m = valD (s.data.toList.take j) ∧ (s.data.toList.take j).all digB = true ∧ wr = w)
  case atStart => exact ⟨0, 0, by omega, rfl, rfl, by simp [valD], by simp, rfl⟩
  case round =>
   obtain ⟨j, m, hg, rfl, rfl, hm, hall, rfl⟩ := hrel
   have hm9 : m ≤ 99 := by rw [hm]; exact valD_small hall (by have := hs2.out; rw [List.length_take, bsz_list]; omega)
   replace hm := hid hm
   replace hall := hid hall
   by_cases hlt : j < s.size
   ·obtain ⟨c, hc⟩ := str_has hlt
    obtain ⟨p0, p1⟩ := str_at hc
    have htk := hid (take_succ_of hc)
    replace hc := hid hc
    by_cases hdc : digB c = true
    ·have hcr := digB_le hdc
     have d1 : ¬ (c.toNat : Int) < 48 := by omega
     have d2 : ¬ (57 : Int) < (c.toNat : Int) := by omega
     have e1 : IntKind.i64.wrap ((m : Int) * 10) = (m : Int) * 10 := by rw [IntKind.wrap_i64]; omega
     have e2 : IntKind.i64.wrap (c.toNat : Int) = (c.toNat : Int) := by rw [IntKind.wrap_i64]; omega
     have e3 : IntKind.i64.wrap ((m : Int) * 10 + (c.toNat : Int)) = (m : Int) * 10 + (c.toNat : Int) := by rw [IntKind.wrap_i64]; omega
     have e4 : IntKind.i64.wrap ((m : Int) * 10 + (c.toNat : Int) - 48) = ((10 * m + (c.toNat - 48) : Nat) : Int) := by rw [IntKind.wrap_i64]; omega
     have hv2 : Hid (10 * m + (c.toNat - 48) = valD (s.data.toList.take (j + 1))) := by show _ = _; rw [htk.out, valD_snoc, ← hm.out]
     obtain ⟨m2, hm2⟩ : ∃ m2, m2 = 10 * m + (c.toNat - 48) := ⟨_, rfl⟩
     rw [← hm2] at e4 hv2
     clear hm2 hcr
     go_wp2_with fail
     go_roundg (s.size - (j + 1))
     case measure => omega
     case rel => exact ⟨j + 1, m2, by omega, rfl, by go_num, hv2.out, by rw [htk.out, List.all_append, hall.out]; simp [hdc], rfl⟩
    ·have hr := hnt.out j c hc.out (by simpa using hdc)
     subst hr
     by_cases d1 : (c.toNat : Int) < 48
     ·go_wp2_with fail
      go_ret
      exact ⟨rfl, rfl⟩
     ·have d2 : (57 : Int) < (c.toNat : Int) := by
       simp only [digB, Bool.and_eq_true, decide_eq_true_eq] at hdc
       omega
      go_wp2_with fail
      go_ret
      exact ⟨rfl, rfl⟩
   ·have hfull : s.data.toList.take j = s.data.toList := List.take_of_length_le (by rw [bsz_list]; omega)
    have hr := hfin.out (by rw [← hfull]; exact hall.out)
    rw [← hfull, ← hm.out] at hr
    subst hr
    clear hfull hm hall
    go_wp2_with fail
    go_ret
    exact ⟨rfl, rfl⟩
set_option maxHeartbeats 2000000 in
theorem rletter_calls (c : UInt8) (w : World) : Calls Tryz.prog 99 #[.int .u8 c.toNat] w fun e w' => e = .returned (.bool (letB c)) ∧ w' = w := by
  obtain ⟨R, hR⟩ : ∃ R, R = letB c := ⟨_, rfl⟩
  rw [← hR]
  rw [← letR_byte] at hR
  unfold letR at hR
  generalize (c.toNat : Int) = r at *
  replace hR := hid hR
  cases h1 : decide (97 ≤ r) <;> cases h2 : decide (r ≤ 122) <;> cases h3 : decide (65 ≤ r) <;> cases h4 : decide (r ≤ 90) <;> cases h5 : decide (r = 95) <;>
    first
    | (exfalso; (first | have := of_decide_eq_false h1 | have := of_decide_eq_true h1); (first | have := of_decide_eq_false h2 | have := of_decide_eq_true h2); (first | have := of_decide_eq_false h3 | have := of_decide_eq_true h3); (first | have := of_decide_eq_false h4 | have := of_decide_eq_true h4); (first | have := of_decide_eq_false h5 | have := of_decide_eq_true h5); omega)
    | ((first | have g1 := of_decide_eq_false h1 | have g1 := of_decide_eq_true h1); (first | have g2 := of_decide_eq_false h2 | have g2 := of_decide_eq_true h2); (first | have g3 := of_decide_eq_false h3 | have g3 := of_decide_eq_true h3); (first | have g4 := of_decide_eq_false h4 | have g4 := of_decide_eq_true h4); (first | have g5 := of_decide_eq_false h5 | have g5 := of_decide_eq_true h5)
       rw [h1, h2, h3, h4, h5] at hR
       (first | have g6 : (r == 95) = false := beq_false_of_ne g5 | have g6 : (r == 95) = true := beq_iff_eq.2 g5)
       clear g5
       go_enter Tryz.func99, Tryz.ntmps99
       go_wp2_with fail
       go_ret
       exact ⟨by rw [hR.out]; rfl, rfl⟩)
set_option maxRecDepth 100000 in
set_option maxHeartbeats 2000000 in
theorem rstep_calls (s : ByteArray) (w : World) (hs : s.size ≤ 140737488355328) :
  Calls Tryz.prog 85 #[.string s] w fun e w' => e = .returned (.bool (stepB s)) ∧ w' = w := by
 have hpl := hid (rplace_calls s w hs)
 have hlt := hid (fun c w => rletter_calls c w)
 have hend : okB s.data.toList = true → isNm s = (decide (s.size ≠ 0) && decide (s.size ≤ 24)) := fun h => by
  unfold isNm
  rw [nameB_ok, h, Bool.true_and, bsz_list]
  congr 1
  exact decide_eq_decide.2 (by rw [← bsz_list]; cases s.data.toList <;> simp)
 have hbad : ∀ pos, okB (s.data.toList.take (pos + 1)) = false → isNm s = false := fun pos h => by
  unfold isNm
  rw [nameB_ok]
  cases ho : okB s.data.toList with
  | false => rfl
  | true => rw [okB_take ho] at h; cases h
 have hlong : 24 < s.size → isNm s = false := fun h => by
  unfold isNm
  rw [nameB_ok, decide_eq_false (p := s.data.toList.length ≤ 24) (by rw [bsz_list]; omega), Bool.and_false]
 have hem : s.size = 0 → isNm s = false := fun h => by
  unfold isNm
  rw [List.length_eq_zero_iff.1 (show s.data.toList.length = 0 from by rw [bsz_list]; exact h)]
  rfl
 unfold placeZ at hpl
 unfold stepB
 obtain ⟨R, hR⟩ : ∃ R, R = isNm s := ⟨_, rfl⟩
 rw [← hR] at hend hbad hlong hem ⊢
 clear hR
 obtain ⟨Q, hQ⟩ : ∃ Q, Q = place s := ⟨_, rfl⟩
 rw [← hQ] at hpl ⊢
 clear hQ
 cases Q with
 | some n =>
  simp only at hpl
  have h0 : (0 : Int) ≤ (n : Int) := by omega
  clear hend hbad hlong hem
  go_enter Tryz.func85, Tryz.ntmps85
  go_wp2_with fail
  refine hpl.out.mono ?_
  rintro e w1 ⟨rfl, rfl⟩
  go_wp2_with fail
  go_ret
  exact ⟨rfl, rfl⟩
 | none =>
  simp only at hpl
  simp only [Option.isSome_none, Bool.false_or]
  by_cases h0 : s.size = 0
  ·have hr := hem h0
   subst hr
   have h0i : (s.size : Int) < 1 := by omega
   clear hend hbad hlong hem
   go_enter Tryz.func85, Tryz.ntmps85
   go_wp2_with fail
   refine hpl.out.mono ?_
   rintro e w1 ⟨rfl, rfl⟩
   go_wp2_with fail
   go_ret
   exact ⟨rfl, rfl⟩
  have h0i : ¬ (s.size : Int) < 1 := by omega
  by_cases h24 : 24 < s.size
  ·have hr := hlong h24
   subst hr
   have h24i : (24 : Int) < (s.size : Int) := by omega
   clear hend hbad hlong hem
   go_enter Tryz.func85, Tryz.ntmps85
   go_wp2_with fail
   refine hpl.out.mono ?_
   rintro e w1 ⟨rfl, rfl⟩
   go_wp2_with fail
   go_ret
   exact ⟨rfl, rfl⟩
  have h24i : ¬ (24 : Int) < (s.size : Int) := by omega
  obtain ⟨c0, hc0⟩ := str_has (s := s) (j := 0) (by omega)
  obtain ⟨q0, q1⟩ := str_at hc0
  have htk0 : s.data.toList.take (0 + 1) = [c0] := by rw [take_succ_of hc0]; rfl
  cases hl0 : letB c0 with
  | false =>
   have hr := hbad 0 (by rw [htk0]; simp [okB, hl0])
   subst hr
   clear hend hbad hlong hem htk0 hc0
   go_enter Tryz.func85, Tryz.ntmps85
   go_wp2_with fail
   refine hpl.out.mono ?_
   rintro e w1 ⟨rfl, rfl⟩
   go_wp2_with fail
   refine (hlt.out _ _).mono ?_
   rintro e w1 ⟨rfl, rfl⟩
   go_wp2_with fail
   go_ret
   exact ⟨rfl, rfl⟩
  | true =>
   have hok1 := hid (show okB (s.data.toList.take 1) = true by rw [htk0]; simp [okB, hl0])
   have hend2 : Hid (okB s.data.toList = true → R = true) := fun h => by
    rw [hend h]
    simp [h0]
    omega
   replace hbad := hid hbad
   have hsz0 := hid h0
   clear hend hlong hem htk0 hc0 h0 h24
   go_enter Tryz.func85, Tryz.ntmps85
   go_wp2_with fail
   refine hpl.out.mono ?_
   rintro e w1 ⟨rfl, rfl⟩
   go_wp2_with fail
   refine (hlt.out _ _).mono ?_
   rintro e w1 ⟨rfl, rfl⟩
   go_wp2_with fail
   clear q0 q1 h0i h24i hpl
   go_loopg [3] (s.size - 1) (fun g i wr => ∃ j : Nat, g + j = s.size ∧ 1 ≤ j ∧ i = .int .i64 j ∧ okB (s.data.toList.take j) = true ∧ wr = w1)
   case atStart => exact ⟨1, by have := hsz0.out; omega, by omega, rfl, hok1.out, rfl⟩
   case round =>
    obtain ⟨j, hg, hj1, rfl, hok, rfl⟩ := hrel
    replace hok := hid hok
    by_cases hjl : j < s.size
    ·obtain ⟨c, hc⟩ := str_has hjl
     obtain ⟨p0, p1⟩ := str_at hc
     have hsn : Hid (okB (s.data.toList.take (j + 1)) = (letB c || digB c)) := by
      show _ = _
      have hne : s.data.toList.take j ≠ [] := fun e => by
       rw [List.take_eq_nil_iff] at e
       rcases e with e | e
       ·omega
       ·rw [← bsz_list, e] at hjl; simp at hjl
      rw [take_succ_of hc, okB_snoc, hok.out]
      simp only [Bool.true_and, hne, ne_eq, not_false_eq_true, decide_true]
     clear hc
     cases hlc : letB c with
     | true =>
      have hn := hsn.out
      rw [hlc] at hn
      replace hn := hid hn
      go_wp2_with fail
      refine (hlt.out _ _).mono ?_
      rintro e w1 ⟨rfl, rfl⟩
      go_wp2_with fail
      go_roundg (s.size - (j + 1))
      case measure => omega
      case rel => exact ⟨j + 1, by omega, by omega, by go_num, by rw [hn.out]; rfl, rfl⟩
     | false =>
      by_cases hdc : digB c = true
      ·have hcr := digB_le hdc
       have d1 : ¬ (c.toNat : Int) < 48 := by omega
       have d2 : ¬ (57 : Int) < (c.toNat : Int) := by omega
       have hn := hsn.out
       rw [hlc, hdc] at hn
       replace hn := hid hn
       clear hcr
       go_wp2_with fail
       refine (hlt.out _ _).mono ?_
       rintro e w1 ⟨rfl, rfl⟩
       go_wp2_with fail
       go_roundg (s.size - (j + 1))
       case measure => omega
       case rel => exact ⟨j + 1, by omega, by omega, by go_num, by rw [hn.out]; rfl, rfl⟩
      ·have hdf : digB c = false := by simpa using hdc
       have hr := hbad.out j (by rw [hsn.out, hlc, hdf]; rfl)
       subst hr
       clear hsn hdf
       by_cases d1 : (c.toNat : Int) < 48
       ·go_wp2_with fail
        refine (hlt.out _ _).mono ?_
        rintro e w1 ⟨rfl, rfl⟩
        go_wp2_with fail
        go_ret
        exact ⟨rfl, rfl⟩
       ·have d2 : (57 : Int) < (c.toNat : Int) := by
         simp only [digB, Bool.and_eq_true, decide_eq_true_eq] at hdc
         omega
        go_wp2_with fail
        refine (hlt.out _ _).mono ?_
        rintro e w1 ⟨rfl, rfl⟩
        go_wp2_with fail
        go_ret
        exact ⟨rfl, rfl⟩
    ·have hfull : s.data.toList.take j = s.data.toList := List.take_of_length_le (by rw [bsz_list]; omega)
     have hr := hend2.out (by rw [← hfull]; exact hok.out)
     subst hr
     clear hfull hok
     go_wp2_with fail
     go_ret
     exact ⟨rfl, rfl⟩
theorem cut_str (p : ByteArray) (f i : Nat) : p.extract f i = bar ((p.data.toList.take i).drop f) := by
 rw [← bar_of (p.extract f i)]
 congr 1
 have h1 : (p.extract f i).data.toList = (p.data.toList.take (f + (i - f))).drop f := by simp [List.take_drop]
 rw [h1]
 by_cases h : f ≤ i
 ·rw [show f + (i - f) = i by omega]
 ·rw [List.drop_eq_nil_of_le (by rw [List.length_take]; omega), List.drop_eq_nil_of_le (by rw [List.length_take]; omega)]
theorem own_push {w : World} {B e n : Nat} {v : Value} {l : List ByteArray} (h : w.ownsRow B e 1 v n (l.map Value.string)) : ∃ a c, v = .slice a l.length c ∧ l.length ≤ 9223372036854775807 := by
 have hl := h.1
 rw [List.length_map, Nat.mul_one] at hl
 rcases h.2 with ⟨h, h0⟩ | ⟨g, cap, cur, hv, _, _, hc, hm, _⟩
 ·exact ⟨none, 0, by rw [h, hl, h0], by omega⟩
 ·exact ⟨_, cap, by rw [hl]; exact hv, by unfold maxLen at hm; omega⟩
set_option maxRecDepth 100000 in
set_option maxHeartbeats 4000000 in
theorem rsteps_calls (p : ByteArray) (w : World) (hp : p.size ≤ 70368744177664) : Calls Tryz.prog 57 #[.string p] w fun e w' => Below w.heap.size w w' ∧ match stepsP p with
  | none => e = .returned (.tuple #[.slice none 0 0, .bool false])
  | some l => ∃ v, e = .returned (.tuple #[v, .bool true]) ∧ StrsAt w' (From w.heap.size w') l v := by
 have hst := hid (fun (s : ByteArray) w h => rstep_calls s w h)
 have hsr := steps_ref p
 obtain ⟨R, hR⟩ : ∃ R, R = stepsP p := ⟨_, rfl⟩
 rw [← hR] at hsr ⊢
 clear hR
 replace hsr := hid hsr
 obtain ⟨i0, hi, hz0, hz1, hz2⟩ := info_parts info_str
 go_enter Tryz.func57, Tryz.ntmps57
 go_wp2_with fail
 go_loopg [4, 5, 6] (p.size + 1) (fun g o f i wr => ∃ (out : List ByteArray) (fr k : Nat), g + k = p.size + 1 ∧ f = .int .i64 fr ∧ i = .int .i64 k ∧ wr.ownsRow w.heap.size 9 1 o out.length (out.map Value.string) ∧ out.length ≤ 8 ∧ fr ≤ k ∧ Below w.heap.size w wr ∧
  ((k ≤ p.size ∧ goS out ((p.data.toList.take k).drop fr) (p.data.toList.drop k) = R) ∨ (k = p.size + 1 ∧ R = some out)))
 case atStart => exact ⟨[], 0, 0, by omega, rfl, rfl, World.ownsRow_nil _ _ _ _, by simp, by omega, Below.refl _ _, .inl ⟨by omega, by simpa using hsr.out⟩⟩
 case round =>
  clear hsr
  obtain ⟨out, fr, k, hg, rfl, rfl, hown, hol, hfk, hb, hrest⟩ := hrel
  replace hown := hid hown
  replace hb := hid hb
  rcases hrest with ⟨hk, hgo⟩ | ⟨hk, hend⟩
  ·replace hgo := hid hgo
   obtain ⟨oa, oc, rfl, _⟩ := own_push hown.out
   have hpc : Hid (p.extract fr k = bar ((p.data.toList.take k).drop fr)) := cut_str p fr k
   have hps : Hid ((p.extract fr k).size ≤ 140737488355328) := by
    show _ ≤ _
    rw [ByteArray.size_extract]; omega
   have ew : IntKind.i64.wrap ((k : Int) + 1) = (k : Int) + 1 := by rw [IntWalk.i64_in _ (by omega)]
   have hki : (k : Int) ≤ (p.size : Int) := by omega
   by_cases hlt : k < p.size
   ·have hlti : (k : Int) < (p.size : Int) := by omega
    obtain ⟨c, hc⟩ := str_has hlt
    obtain ⟨p0, p1⟩ := str_at hc
    have hdr : Hid (p.data.toList.drop k = c :: p.data.toList.drop (k + 1)) := by show _ = _; rw [List.drop_eq_getElem_cons (by rw [bsz_list]; exact hlt), (List.getElem?_eq_some_iff.1 hc).2]
    have htk := hid (take_succ_of hc)
    clear hc
    by_cases h46 : c = 46
    ·subst h46
     have h46b : ((46 : UInt8).toNat : Int) = 46 := rfl
     have hneq : (((46 : UInt8).toNat : Int) != 46) = false := rfl
     cases hsb : stepB (bar ((p.data.toList.take k).drop fr)) with
     | false =>
      have hno : Hid (R = none) := by
       show _ = _
       rw [← hgo.out]
       rw [hdr.out, goS, if_pos rfl, if_pos (.inl hsb)]
      obtain rfl := hno.out
      go_wp2_with fail
      refine (hst.out _ _ hps.out).mono ?_
      rintro e w1 ⟨rfl, hw1⟩
      obtain rfl : wr = w1 := hw1.symm
      clear hw1
      rw [hpc.out, hsb]
      go_wp2_with fail
      go_returns
      exact ⟨hb.out, rfl⟩
     | true =>
      by_cases h8 : out.length = 8
      ·have hno : Hid (R = none) := by
        show _ = _
        rw [← hgo.out]
        rw [hdr.out, goS, if_pos rfl, if_pos (.inr h8)]
       obtain rfl := hno.out
       have h8i : ((out.length : Int) == 8) = true := beq_iff_eq.2 (by omega)
       go_wp2_with fail
       refine (hst.out _ _ hps.out).mono ?_
       rintro e w1 ⟨rfl, hw1⟩
       obtain rfl : wr = w1 := hw1.symm
       clear hw1
       rw [hpc.out, hsb]
       go_wp2_with fail
       go_returns
       exact ⟨hb.out, rfl⟩
      ·have h8i : ((out.length : Int) == 8) = false := beq_false_of_ne (by omega)
       go_wp2_with fail
       refine (hst.out _ _ hps.out).mono ?_
       rintro e w1 ⟨rfl, hw1⟩
       obtain rfl : wr = w1 := hw1.symm
       clear hw1
       rw [hpc.out, hsb]
       go_wp2_with (at_builtin; (refine wpList_append_own_any _ rfl _ _ 57 rfl w.heap.size 9 i0 (.string ByteArray.empty) 1 16 Tryz.underlying57 hi hz0 hz1 hz2 rfl (by decide) _ out.length (out.map Value.string) rfl (hown.out.alloc _) (some ⟨wr.heap.size, 0, none⟩) 1 1 [.string (p.extract fr k)] rfl rfl (fun h => by cases h) (fun ad had => by obtain rfl := Option.some.inj had; exact cells_new wr _ rfl [.string (p.extract fr k)] _) (by intro u hu; simp at hu; subst hu; rfl) (by unfold maxLen; omega) (by omega) (Nat.le_trans hb.out.size (below_new wr _).size) ?_); intro v5 w5 hown5 hg5; replace hown5 := hid hown5; replace hg5 := hid hg5)
       have hB5 : Below w.heap.size w w5 := (hb.out.step (below_new wr _)).grown hg5.out (hb.out.step (below_new wr _)).size (fun j hj => (hown.out.lt j hj).1)
       have hown6 : w5.ownsRow w.heap.size 9 1 v5 (out ++ [bar ((p.data.toList.take k).drop fr)]).length ((out ++ [bar ((p.data.toList.take k).drop fr)]).map Value.string) := by
        have := hown5.out
        rw [hpc.out] at this
        simpa using this
       go_roundg (p.size + 1 - (k + 1))
       case measure => omega
       case rel =>
        refine ⟨out ++ [bar ((p.data.toList.take k).drop fr)], k + 1, k + 1, by omega, by go_num, by go_num, hown6, by simp; omega, by omega, hB5, ?_⟩
        refine .inl ⟨by omega, ?_⟩
        have := hgo.out
        rw [hdr.out, goS, if_pos rfl, if_neg (by simp [hsb, h8])] at this
        have hd0 : (p.data.toList.take (k + 1)).drop (k + 1) = [] := List.drop_eq_nil_of_le (by rw [List.length_take]; omega)
        rw [hd0]
        exact this
    ·have hn46 : ((c.toNat : Int) != 46) = true := by
      rw [bne, beq_false_of_ne (fun e => h46 (UInt8.toNat_inj.1 (by show c.toNat = 46; omega)))]
      rfl
     go_wp2_with fail
     go_roundg (p.size + 1 - (k + 1))
     case measure => omega
     case rel =>
      refine ⟨out, fr, k + 1, by omega, rfl, by go_num, hown.out, hol, by omega, hb.out, .inl ⟨by omega, ?_⟩⟩
      have := hgo.out
      rw [hdr.out, goS, if_neg h46] at this
      rw [htk.out, List.drop_append_of_le_length (by rw [List.length_take, bsz_list]; omega)]
      exact this
   ·have hlti : ¬ (k : Int) < (p.size : Int) := by omega
    have hdn : Hid (p.data.toList.drop k = []) := List.drop_eq_nil_of_le (by rw [bsz_list]; omega)
    cases hsb : stepB (bar ((p.data.toList.take k).drop fr)) with
    | false =>
     have hno : Hid (R = none) := by
      show _ = _
      rw [← hgo.out]
      rw [hdn.out, goS, if_pos (.inl hsb)]
     obtain rfl := hno.out
     go_wp2_with fail
     refine (hst.out _ _ hps.out).mono ?_
     rintro e w1 ⟨rfl, hw1⟩
     obtain rfl : wr = w1 := hw1.symm
     clear hw1
     rw [hpc.out, hsb]
     go_wp2_with fail
     go_returns
     exact ⟨hb.out, rfl⟩
    | true =>
     by_cases h8 : out.length = 8
     ·have hno : Hid (R = none) := by
       show _ = _
       rw [← hgo.out]
       rw [hdn.out, goS, if_pos (.inr h8)]
      obtain rfl := hno.out
      have h8i : ((out.length : Int) == 8) = true := beq_iff_eq.2 (by omega)
      go_wp2_with fail
      refine (hst.out _ _ hps.out).mono ?_
      rintro e w1 ⟨rfl, hw1⟩
      obtain rfl : wr = w1 := hw1.symm
      clear hw1
      rw [hpc.out, hsb]
      go_wp2_with fail
      go_returns
      exact ⟨hb.out, rfl⟩
     ·have h8i : ((out.length : Int) == 8) = false := beq_false_of_ne (by omega)
      go_wp2_with fail
      refine (hst.out _ _ hps.out).mono ?_
      rintro e w1 ⟨rfl, hw1⟩
      obtain rfl : wr = w1 := hw1.symm
      clear hw1
      rw [hpc.out, hsb]
      go_wp2_with (at_builtin; (refine wpList_append_own_any _ rfl _ _ 57 rfl w.heap.size 9 i0 (.string ByteArray.empty) 1 16 Tryz.underlying57 hi hz0 hz1 hz2 rfl (by decide) _ out.length (out.map Value.string) rfl (hown.out.alloc _) (some ⟨wr.heap.size, 0, none⟩) 1 1 [.string (p.extract fr k)] rfl rfl (fun h => by cases h) (fun ad had => by obtain rfl := Option.some.inj had; exact cells_new wr _ rfl [.string (p.extract fr k)] _) (by intro u hu; simp at hu; subst hu; rfl) (by unfold maxLen; omega) (by omega) (Nat.le_trans hb.out.size (below_new wr _).size) ?_); intro v5 w5 hown5 hg5; replace hown5 := hid hown5; replace hg5 := hid hg5)
      have hB5 : Below w.heap.size w w5 := (hb.out.step (below_new wr _)).grown hg5.out (hb.out.step (below_new wr _)).size (fun j hj => (hown.out.lt j hj).1)
      have hown6 : w5.ownsRow w.heap.size 9 1 v5 (out ++ [bar ((p.data.toList.take k).drop fr)]).length ((out ++ [bar ((p.data.toList.take k).drop fr)]).map Value.string) := by
       have := hown5.out
       rw [hpc.out] at this
       simpa using this
      go_roundg (p.size + 1 - (k + 1))
      case measure => omega
      case rel =>
       refine ⟨out ++ [bar ((p.data.toList.take k).drop fr)], k + 1, k + 1, by omega, by go_num, by go_num, hown6, by simp; omega, by omega, hB5, ?_⟩
       refine .inr ⟨by omega, ?_⟩
       have := hgo.out
       rw [hdn.out, goS, if_neg (by simp [hsb, h8])] at this
       exact this.symm
  ·have hki : ¬ (k : Int) ≤ (p.size : Int) := by omega
   obtain ⟨oa, oc, rfl, _⟩ := own_push hown.out
   subst hend
   go_wp2_with fail
   go_returns
   exact ⟨hb.out, _, rfl, own_strs hown.out⟩
end Go.Proofs.YthjihdpleclejaaGreatDoor
