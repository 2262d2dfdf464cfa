/-
  Walks: the reference's Take, Unquote, Quote (of a quoted text).
-/
import Derived.Test.YtdjegpmjhfbamaaDoorRefU2
import Derived.Deep.RegionHeld3
namespace Go.Proofs.YtdjegpmjhfbamaaDoor
open Go.RowKit Go.Proofs

/-- What Take tells of a text that begins with a quote. -/
def takeP : List UInt8 → Int × List UInt8 × Nat
  | [] => (4, [], 0)
  | c :: r => if c = 34 then takeG (r.length + 1) r [] 1 else (4, [], 0)
where takeG : Nat → List UInt8 → List UInt8 → Nat → Int × List UInt8 × Nat
  | 0, _, _, _ => (4, [], 0)
  | n + 1, l, acc, at_ => match partP l with
    | (e, b, k) => if e = -1 then (0, acc, at_ + 1) else if e = 0 then takeG n (l.drop k) (acc ++ b) (at_ + k) else (e, [], 0)

theorem part_step {l : List UInt8} {b : List UInt8} {k : Nat} (h : partP l = (0, b, k)) : 1 ≤ k ∧ k ≤ l.length ∧ b.length ≤ k := by
  unfold partP at h
  cases l with
  | nil => cases h
  | cons c r =>
    simp only at h
    split at h
    · cases h
    split at h
    · split at h
      · cases h
      · split at h
        · cases h
        · rename_i v sz hs
          injection h with _ h
          injection h with h1 h2
          subst h1 h2
          have := stepD_some hs (by simp)
          rw [List.length_take]
          omega
    · split at h
      · cases h
      rename_i d q
      split at h
      · injection h with _ h
        injection h with h1 h2
        subst h1 h2
        simp
      split at h
      · cases h
      split at h
      · cases h
      rename_i n hf
      have hfl := four_len hf
      split at h
      · split at h
        · split at h
          · cases h
          rename_i m hg
          have hgl := four_len hg
          rw [List.length_drop] at hgl
          split at h
          · injection h with _ h
            injection h with h1 h2
            subst h1 h2
            have := Lib.encodeRuneZ_length ((65536 + (n - 55296) * 1024 + (m - 56320) : Nat) : Int)
            rw [enc_len]
            simp only [List.length_cons]
            omega
          · cases h
        · cases h
      · injection h with _ h
        injection h with h1 h2
        subst h1 h2
        have := Lib.encodeRuneZ_length (n : Int)
        rw [enc_len]
        simp only [List.length_cons]
        omega
/-- Read whole: Unquote's answer. -/
theorem take_unq : ∀ (n : Nat) (l acc : List UInt8) (p : Nat), l.length < n → unqG n l acc = match takeP.takeG n l acc p with
    | (e, b, q) => if e = 0 then (if q = p + l.length then (0, b) else (4, [])) else (e, [])
  | 0, _, _, _, h => by omega
  | n + 1, l, acc, p, h => by
    rw [unqG, takeP.takeG]
    cases hp : partP l with
    | mk e bk =>
      obtain ⟨b, k⟩ := bk
      simp only
      by_cases h1 : e = -1
      · subst h1
        simp only [if_true]
        cases l with
        | nil => simp [partP] at hp
        | cons c r =>
          cases r with
          | nil => simp
          | cons d q => simp
      · rw [if_neg h1, if_neg h1]
        by_cases h0 : e = 0
        · subst h0
          obtain ⟨k1, k2, _⟩ := part_step hp
          simp only [if_true]
          rw [take_unq n (l.drop k) (acc ++ b) (p + k) (by rw [List.length_drop]; omega), List.length_drop]
          rw [show p + k + (l.length - k) = p + l.length by omega]
        · rw [if_neg h0, if_neg h0]
          simp only
          rw [if_neg h0]

def TakeLeft (s : ByteArray) (R : Int × List UInt8 × Nat) (p : Nat) (acc : List UInt8) : Prop := ∃ n, s.size - p < n ∧ takeP.takeG n (s.data.toList.drop p) acc p = R
theorem TakeLeft.open_ {s : ByteArray} {R : Int × List UInt8 × Nat} {p : Nat} {acc : List UInt8} (h : TakeLeft s R p acc) {e : Int} {b : List UInt8} {k : Nat} (hp : partP (s.data.toList.drop p) = (e, b, k)) :
    (e = -1 → R = (0, acc, p + 1)) ∧ (e ≠ -1 → e ≠ 0 → R = (e, [], 0)) ∧ (e = 0 → TakeLeft s R (p + k) (acc ++ b)) := by
  obtain ⟨n, hn, h⟩ := h
  obtain ⟨m, rfl⟩ : ∃ m, n = m + 1 := ⟨n - 1, by omega⟩
  rw [takeP.takeG, hp] at h
  simp only at h
  refine ⟨fun h1 => ?_, fun h1 h0 => ?_, fun h0 => ?_⟩
  · rw [if_pos h1] at h; exact h.symm
  · rw [if_neg h1, if_neg h0] at h; exact h.symm
  · rw [if_neg (by omega), if_pos h0, List.drop_drop] at h
    subst h0
    have := part_step hp
    rw [List.length_drop, show s.data.toList.length = s.size by simp] at this
    exact ⟨m, by omega, h⟩

set_option maxRecDepth 100000 in
set_option maxHeartbeats 8000000 in
theorem rtake_calls (s : ByteArray) (hs : s.size ≤ 35184372088832) (w : World) : Calls Tryd.prog 71 #[.string s, .int .i64 0] w fun e w' =>
    ∃ y : Nat, e = .returned (.tuple #[.string ⟨(takeP s.data.toList).2.1.toArray⟩, .int .i64 y, .int .i64 (takeP s.data.toList).1]) ∧ ((takeP s.data.toList).1 = 0 → y = (takeP s.data.toList).2.2) ∧ Below w.heap.size w w' := by
  obtain ⟨R, hR⟩ : ∃ R, R = takeP s.data.toList := ⟨_, rfl⟩
  rw [← hR]
  have hll : Hid (s.data.toList.length = s.size) := by show _ = _; simp
  obtain ⟨i0, hP⟩ := byte8
  by_cases h0 : s.size = 0
  · have hRR : Hid (R = (4, [], 0)) := by
      show _ = _
      rw [hR, show s.data.toList = [] from List.eq_nil_of_length_eq_zero (by rw [hll.out]; exact h0)]; rfl
    clear hR
    go_enter Tryd.func71, Tryd.ntmps71
    go_wp2_with fail
    go_returns
    exact ⟨0, by rw [hRR.out]; rfl, by rw [hRR.out]; simp, Below.refl _ _⟩
  have hp0 : 0 < s.size := by omega
  have hp0' : (0 : Int) < (s.size : Int) := by omega
  obtain ⟨x, hx, hxc⟩ := bt_get hp0
  have hb := bt_at s 0 hp0
  have hb8 := bt_lt s 0
  generalize hbt : bt s 0 = c at *
  rw [List.drop_zero] at hx
  replace hx := hid hx
  replace hxc := hid hxc
  replace hbt := hid hbt
  replace hR := hid hR
  clear h0
  rcases Classical.em (¬ c = 34) with c34 | c34
  · have e34 : ((c : Int) == 34) = false := by simpa using (by omega : ¬ (c : Int) = 34)
    have e34' : ((c : Int) != 34) = true := by simpa using (by omega : ¬ (c : Int) = 34)
    have hRR : Hid (R = (4, [], 0)) := by
      show _ = _
      rw [hR.out, hx.out, takeP, if_neg (fun e => c34 (by rw [← hxc.out, e]; rfl))]
    clear c34
    go_enter Tryd.func71, Tryd.ntmps71
    go_wp2_with fail
    all_goals
      go_returns
      exact ⟨0, by rw [hRR.out]; rfl, by rw [hRR.out]; simp, Below.refl _ _⟩
  obtain rfl : c = 34 := by omega
  have hL : Hid (TakeLeft s R 1 []) := by
    refine ⟨(s.data.toList.drop 1).length + 1, by rw [List.length_drop, hll.out]; omega, ?_⟩
    rw [hR.out]
    conv => rhs; rw [hx.out, u8_of hxc.out (by omega)]
    rw [takeP, if_pos (show UInt8.ofNat 34 = 34 from rfl)]
  clear c34
  have hpart := hid (fun p hp w => rpart_calls s hs p hp w)
  go_enter Tryd.func71, Tryd.ntmps71
  go_wp2_with fail
  · exfalso; clear hpart hL hR; simp_all
  go_loopg [1, 7, 8, 9, 10] (s.size - 1) (fun g at_ o _ _ _ wr => ∃ (p : Nat) (acc : List UInt8), g + p = s.size ∧ at_ = .int .i64 p ∧ Buf w.heap.size 5 w wr acc o ∧ acc.length ≤ p ∧ TakeLeft s R p acc)
  case atStart => exact ⟨1, [], by omega, rfl, Buf.nil (Below.refl _ _) (Nat.le_refl _), by simp, hL.out⟩
  case round =>
    obtain ⟨p, acc, hg, rfl, hbuf, hacc, hTL⟩ := hrel
    replace hbuf := hid hbuf
    replace hTL := hid hTL
    have hpc := hid (fun w => hpart.out p (by omega) w)
    cases hp : partP (s.data.toList.drop p) with
    | mk e bk =>
      obtain ⟨b, k⟩ := bk
      rw [hp] at hpc
      obtain ⟨t1, t2, t3⟩ := hTL.out.open_ hp
      replace t1 := hid t1
      replace t2 := hid t2
      replace t3 := hid t3
      have hst : Hid (e = 0 → 1 ≤ k ∧ k ≤ s.size - p ∧ b.length ≤ k) := fun h => by
        subst h
        have := part_step hp
        rwa [List.length_drop, hll.out] at this
      clear hp
      by_cases h1 : e = -1
      · subst h1
        have hRR := hid (t1.out rfl)
        have hcv := fun w v (h : Buf w.heap.size 5 w w acc v) => conv_buf (P := Tryd.prog) Tryd.underlying45 Tryd.underlying5 Tryd.underlying9 h
        clear hcv
        go_wp2_with fail
        refine (hpc.out _).mono ?_
        rintro e w1 ⟨x1, y1, rfl, hb1, hy1, _⟩
        obtain rfl := hy1 rfl
        have hbuf1 := hid (hbuf.out.later hb1)
        have hcv := conv_buf (P := Tryd.prog) Tryd.underlying45 Tryd.underlying5 Tryd.underlying9 hbuf1.out
        go_wp2_with fail
        go_returns
        exact ⟨p + 1, by rw [hRR.out]; rfl, by rw [hRR.out]; intro _; rfl, hbuf1.out.below⟩
      by_cases h0 : e = 0
      · subst h0
        obtain ⟨k1, k2, k3⟩ := hst.out rfl
        have hnx := hid (t3.out rfl)
        go_wp2_with fail
        refine (hpc.out _).mono ?_
        rintro e w1 ⟨x1, y1, rfl, hb1, _, hy1⟩
        obtain ⟨rfl, g1, c1, rfl, hsrc, _⟩ := hy1 rfl
        replace hsrc := hid hsrc
        have hbuf1 := hid (hbuf.out.later hb1)
        go_wp2_with (first
          | (at_builtin; (refine wpList_buf_made rfl _ _ rfl hP rfl hbuf1.out b g1 _ _ rfl rfl hsrc.out (by omega) ?_); intro v2 w2 hb2; replace hb2 := hid hb2))
        go_roundg (s.size - (p + k))
        case measure => omega
        case rel => exact ⟨p + k, acc ++ b, by omega, by go_num, hb2.out, by rw [List.length_append]; omega, hnx.out⟩
      · have hRR := hid (t2.out h1 h0)
        have d1 : (e == -1) = false := by simpa using h1
        have d0 : (e == 0) = false := by simpa using h0
        have d0' : (e != 0) = true := by simpa using h0
        have h0' := hid h0
        clear h1 h0
        go_wp2_with fail
        refine (hpc.out _).mono ?_
        rintro e w1 ⟨x1, y1, rfl, hb1, _, _⟩
        have hbuf1 := hid (hbuf.out.later hb1)
        go_wp2_with fail
        go_returns
        exact ⟨0, by rw [hRR.out]; rfl, fun h => absurd (by rw [hRR.out] at h; exact h) h0'.out, hbuf1.out.below⟩

theorem unq_take (l : List UInt8) : unqP l = if (takeP l).1 = 0 then (if (takeP l).2.2 = l.length then (0, (takeP l).2.1) else (4, [])) else ((takeP l).1, []) := by
  cases l with
  | nil => rfl
  | cons c r =>
    unfold unqP takeP
    simp only
    by_cases hc : c = 34
    · rw [if_pos hc, if_pos hc, take_unq _ r [] 1 (by omega), List.length_cons, Nat.add_comm 1]
    · rw [if_neg hc, if_neg hc]
      rfl

set_option maxRecDepth 100000 in
theorem runquote_calls (s : ByteArray) (hs : s.size ≤ 35184372088832) (w : World) : Calls Tryd.prog 19 #[.string s] w fun e w' =>
    e = .returned (.tuple #[.string ⟨(unqP s.data.toList).2.toArray⟩, .int .i64 (unqP s.data.toList).1]) ∧ Below w.heap.size w w' := by
  have ht := hid (rtake_calls s hs w)
  have hu := unq_take s.data.toList
  rw [show s.data.toList.length = s.size by simp] at hu
  generalize unqP s.data.toList = U at *
  generalize takeP s.data.toList = T at *
  obtain ⟨e, b, q⟩ := T
  simp only at hu
  by_cases h0 : e = 0
  · subst h0
    rw [if_pos rfl] at hu
    by_cases hq : q = s.size
    · rw [if_pos hq] at hu
      subst hu hq
      go_enter Tryd.func19, Tryd.ntmps19
      go_wp2_with fail
      refine ht.out.mono ?_
      rintro e w1 ⟨y, rfl, hy, hb⟩
      obtain rfl := hy trivial
      go_wp2_with fail
      go_returns
      exact ⟨rfl, hb⟩
    · rw [if_neg hq] at hu
      have hq' : ((q : Int) == (s.size : Int)) = false := by simp; omega
      have hq'' : ((q : Int) != (s.size : Int)) = true := by simp; omega
      clear hq
      subst hu
      go_enter Tryd.func19, Tryd.ntmps19
      go_wp2_with fail
      refine ht.out.mono ?_
      rintro e w1 ⟨y, rfl, hy, hb⟩
      obtain rfl := hy trivial
      go_wp2_with fail
      go_returns
      exact ⟨rfl, hb⟩
  · rw [if_neg h0] at hu
    subst hu
    have d0 : (e == 0) = false := by simpa using h0
    have d0' : (e != 0) = true := by simpa using h0
    clear h0
    go_enter Tryd.func19, Tryd.ntmps19
    go_wp2_with fail
    refine ht.out.mono ?_
    rintro e w1 ⟨y, rfl, hy, hb⟩
    clear hy
    go_wp2_with fail
    go_returns
    exact ⟨rfl, hb⟩

theorem q1_long {x : UInt8} (hl : letterP x.toNat = none) (h : x.toNat < 32 ∨ x.toNat = 127) : q1 x = [92, 117, 48, 48, hexD (x.toNat / 16), hexD (x.toNat % 16)] := by
  unfold q1
  rw [hl]
  simp only
  rw [if_pos h]
theorem q1_self {x : UInt8} (hl : letterP x.toNat = none) (h : ¬ (x.toNat < 32 ∨ x.toNat = 127)) : q1 x = [x] := by
  unfold q1
  rw [hl]
  simp only
  rw [if_neg h]
theorem letter_none {v : Nat} (h1 : v ≠ 34) (h2 : v ≠ 92) (h3 : v ≠ 8) (h4 : v ≠ 12) (h5 : v ≠ 10) (h6 : v ≠ 13) (h7 : v ≠ 9) : letterP v = none := by
  unfold letterP
  rw [if_neg h1, if_neg h2, if_neg h3, if_neg h4, if_neg h5, if_neg h6, if_neg h7]

set_option maxRecDepth 100000 in
set_option maxHeartbeats 16000000 in
theorem rquote_calls (s : ByteArray) (hs : s.size ≤ 17592186044416) (w : World) : Calls Tryd.prog 22 #[.string s] w fun e w' =>
    e = .returned (.string ⟨(quoteP s.data.toList).toArray⟩) ∧ Below w.heap.size w w' := by
  obtain ⟨X, hX⟩ : ∃ X, X = quoteP s.data.toList := ⟨_, rfl⟩
  rw [← hX]
  replace hX := hid hX
  have hll : Hid (s.data.toList.length = s.size) := by show _ = _; simp
  obtain ⟨i0, hP⟩ := byte8
  have hb1 := hid (buf_new (e := 5) (w := w) [34] (Below.refl w.heap.size w) (Nat.le_refl _) rfl (by unfold maxLen; simp))
  go_enter Tryd.func22, Tryd.ntmps22
  go_wp2_with fail
  go_loopg [3, 4, 5] s.size (fun g o i _ wr => ∃ (j : Nat) (dq : List UInt8), g + j = s.size ∧ i = .int .i64 j ∧ dq = (s.data.toList.take j).flatMap q1 ∧ dq.length ≤ 6 * j ∧ Buf w.heap.size 5 w wr (34 :: dq) o)
  case atStart => exact ⟨0, [], by omega, rfl, by simp, by simp, hb1.out⟩
  case round =>
    obtain ⟨j, dq, hg, rfl, hdq, hdl, hbuf⟩ := hrel
    replace hdq := hid hdq
    replace hbuf := hid hbuf
    by_cases hlt : j < s.size
    · have hlt' : (j : Int) < (s.size : Int) := by omega
      obtain ⟨x, hx, hxc⟩ := bt_get hlt
      have hb := bt_at s j hlt
      have hb8 := bt_lt s j
      have hsn : Hid (s.data.toList.take (j + 1) = s.data.toList.take j ++ [x]) := by
        show _ = _
        have hl : j < s.data.toList.length := by rw [hll.out]; exact hlt
        rw [List.drop_eq_getElem_cons hl] at hx
        injection hx with hx _
        rw [List.take_succ_eq_append_getElem hl, hx]
      generalize hbt : bt s j = c at *
      have hxc' := hid hxc
      have hql := q1_len x
      have hend : Hid (∀ (v' : Value) (w' : World) (z : List UInt8), z = (34 :: dq) ++ q1 x → Buf w.heap.size 5 w w' z v' → ∃ (j' : Nat) (dq' : List UInt8), (s.size - (j + 1)) + j' = s.size ∧ Value.int .i64 ((j : Int) + 1) = .int .i64 j' ∧ dq' = (s.data.toList.take j').flatMap q1 ∧ dq'.length ≤ 6 * j' ∧ Buf w.heap.size 5 w w' (34 :: dq') v') := by
        rintro v' w' z rfl h
        exact ⟨j + 1, dq ++ q1 x, by omega, by go_num, by rw [hsn.out, List.flatMap_append, hdq.out]; simp, by rw [List.length_append]; omega, by simpa using h⟩
      replace hbt := hid hbt
      clear hx hxc
      rcases Classical.em (c = 34 ∨ c = 92 ∨ c = 8 ∨ c = 12 ∨ c = 10 ∨ c = 13 ∨ c = 9) with hsp | hsp
      · have hsmall : ∃ y : UInt8, q1 x = [92, y] ∧ letterP c = some y := by
          rcases hsp with rfl | rfl | rfl | rfl | rfl | rfl | rfl
          all_goals
            have hxx := u8_of hxc'.out (by omega)
            subst hxx
            exact ⟨_, rfl, rfl⟩
        obtain ⟨y, hqy, hly⟩ := hsmall
        replace hqy := hid hqy
        rcases hsp with rfl | rfl | rfl | rfl | rfl | rfl | rfl
        all_goals
          have hyv := Option.some.inj hly
          subst hyv
          clear hly hql
          go_wp2_with (first
            | (at_builtin; (first | (refine wpList_buf_made rfl _ _ rfl hP rfl (hbuf.out.later (below_new _ _)) [92, 34] wr.heap.size _ _ rfl rfl (src_new [92, 34] _ rfl rfl) (by simp; omega) ?_) | (refine wpList_buf_made rfl _ _ rfl hP rfl (hbuf.out.later (below_new _ _)) [92, 92] wr.heap.size _ _ rfl rfl (src_new [92, 92] _ rfl rfl) (by simp; omega) ?_) | (refine wpList_buf_made rfl _ _ rfl hP rfl (hbuf.out.later (below_new _ _)) [92, 98] wr.heap.size _ _ rfl rfl (src_new [92, 98] _ rfl rfl) (by simp; omega) ?_) | (refine wpList_buf_made rfl _ _ rfl hP rfl (hbuf.out.later (below_new _ _)) [92, 102] wr.heap.size _ _ rfl rfl (src_new [92, 102] _ rfl rfl) (by simp; omega) ?_) | (refine wpList_buf_made rfl _ _ rfl hP rfl (hbuf.out.later (below_new _ _)) [92, 110] wr.heap.size _ _ rfl rfl (src_new [92, 110] _ rfl rfl) (by simp; omega) ?_) | (refine wpList_buf_made rfl _ _ rfl hP rfl (hbuf.out.later (below_new _ _)) [92, 114] wr.heap.size _ _ rfl rfl (src_new [92, 114] _ rfl rfl) (by simp; omega) ?_) | (refine wpList_buf_made rfl _ _ rfl hP rfl (hbuf.out.later (below_new _ _)) [92, 116] wr.heap.size _ _ rfl rfl (src_new [92, 116] _ rfl rfl) (by simp; omega) ?_)); intro v2 w2 hb2; replace hb2 := hid hb2))
          go_roundg (s.size - (j + 1))
          case measure => omega
          case rel => exact hend.out _ _ _ (by rw [hqy.out]) hb2.out
      · have n1 : c ≠ 34 := by omega
        have n2 : c ≠ 92 := by omega
        have n3 : c ≠ 8 := by omega
        have n4 : c ≠ 12 := by omega
        have n5 : c ≠ 10 := by omega
        have n6 : c ≠ 13 := by omega
        have n7 : c ≠ 9 := by omega
        have hnl : letterP x.toNat = none := by rw [hxc'.out]; exact letter_none n1 n2 n3 n4 n5 n6 n7
        have f1 : ((c : Int) == 34) = false := by simpa using (by omega : ¬ (c : Int) = 34)
        have f2 : ((c : Int) == 92) = false := by simpa using (by omega : ¬ (c : Int) = 92)
        have f3 : ((c : Int) == 8) = false := by simpa using (by omega : ¬ (c : Int) = 8)
        have f4 : ((c : Int) == 12) = false := by simpa using (by omega : ¬ (c : Int) = 12)
        have f5 : ((c : Int) == 10) = false := by simpa using (by omega : ¬ (c : Int) = 10)
        have f6 : ((c : Int) == 13) = false := by simpa using (by omega : ¬ (c : Int) = 13)
        have f7 : ((c : Int) == 9) = false := by simpa using (by omega : ¬ (c : Int) = 9)
        clear hsp n1 n2 n3 n4 n5 n6 n7
        by_cases hct : c < 32 ∨ c = 127
        · have hqy := hid (q1_long hnl (by rw [hxc'.out]; exact hct))
          rw [hxc'.out] at hqy
          clear hnl hql
          obtain ⟨d1, e1⟩ : ∃ d, d = hexD (c / 16) := ⟨_, rfl⟩
          obtain ⟨d2, e2⟩ : ∃ d, d = hexD (c % 16) := ⟨_, rfl⟩
          have k1 := hex_at ((c : Int) / 16).toNat (by omega) (by show ((c : Int) / 16).toNat < 16; omega)
          have k2 := hex_at ((c : Int) % 16).toNat (by omega) (by show ((c : Int) % 16).toNat < 16; omega)
          rw [show hexD ((c : Int) / 16).toNat = d1 by rw [e1]; congr 1] at k1
          rw [show hexD ((c : Int) % 16).toNat = d2 by rw [e2]; congr 1] at k2
          rw [← e1, ← e2] at hqy
          replace e1 := hid e1
          replace e2 := hid e2
          have m0 : (0 : Int) ≤ (c : Int) / 16 := by omega
          have m1 : (c : Int) / 16 < 16 := by omega
          have m2 : (0 : Int) ≤ (c : Int) % 16 := by omega
          have m3 : (c : Int) % 16 < 16 := by omega
          have t1 : (c : Int).tdiv 16 = (c : Int) / 16 := Int.tdiv_eq_ediv_of_nonneg (by omega)
          have t2 : (c : Int).tmod 16 = (c : Int) % 16 := Int.tmod_eq_emod_of_nonneg (by omega)
          have t3 : IntKind.u8.wrap ((c : Int) / 16) = (c : Int) / 16 := by rw [IntKind.wrap_u8]; omega
          have t4 : IntKind.u8.wrap ((c : Int) % 16) = (c : Int) % 16 := by rw [IntKind.wrap_u8]; omega
          have hcase : ((c : Int) < 32) ∨ (¬ (c : Int) < 32 ∧ ((c : Int) == 127) = true) := by
            rcases hct with h | h
            · left; omega
            · right; exact ⟨by omega, by simp [h]⟩
          clear hct
          rcases hcase with i32 | ⟨i32, i127⟩
          all_goals
            go_upto_region 20 with fail
            go_region_held3 (fun _ => True) (trivial)
              (first
                | ((refine step_buf_made rfl _ _ rfl hP rfl (hbuf.out.later (below_new _ _).drew) [92, 117, 48, 48, d1, d2] wr.heap.size _ _ rfl rfl (src_new [92, 117, 48, 48, d1, d2] _ (by first | rfl | (rw [k1, k2]; rfl)) rfl) (by simp; omega) ?_); intro v2 w2 hb2))
            all_goals
              go_wp2_with fail
              go_roundg (s.size - (j + 1))
              case measure => omega
              case rel => exact hend.out _ _ _ (by rw [hqy.out]) hb2
        · have hqy := hid (q1_self hnl (by rw [hxc'.out]; exact hct))
          have b1 : ¬ (c : Int) < 32 := by omega
          have b2 : ((c : Int) == 127) = false := by simpa using (by omega : ¬ (c : Int) = 127)
          clear hct hnl hql
          go_wp2_with (first
            | (at_builtin; (refine wpList_buf_made rfl _ _ rfl hP rfl (hbuf.out.later (below_new _ _)) [x] wr.heap.size _ _ rfl rfl (src_new [x] _ (by simp only [bcells, List.map_cons, List.map_nil, hxc'.out]) rfl) (by simp; omega) ?_); intro v2 w2 hb2; replace hb2 := hid hb2))
          go_roundg (s.size - (j + 1))
          case measure => omega
          case rel => exact hend.out _ _ _ (by rw [hqy.out]) hb2.out
    · have hall : Hid (X = (34 :: dq) ++ [34]) := by
        show _ = _
        rw [hX.out, hdq.out, List.take_of_length_le (by rw [hll.out]; omega)]
        rfl
      go_wp2_with (first
        | (at_builtin; (refine wpList_buf_made rfl _ _ rfl hP rfl (hbuf.out.later (below_new _ _)) [34] wr.heap.size _ _ rfl rfl (src_new [34] _ rfl rfl) (by simp; omega) ?_); intro v2 w2 hb2; replace hb2 := hid hb2; have hcv := conv_buf (P := Tryd.prog) Tryd.underlying45 Tryd.underlying5 Tryd.underlying9 hb2.out))
      go_ret
      exact ⟨by rw [hall.out]; rfl, hb2.out.below⟩
end Go.Proofs.YtdjegpmjhfbamaaDoor
