/-
  Walks: the reference's four, Part (of a quoted text).
-/
import Derived.Test.YtdjegpmjhfbamaaDoorRefU1
import Derived.Test.YtdjegpmjhfbamaaDoorUtf7
import Derived.Test.YtdjegpmjhfbamaaDoorQuiet
namespace Go.Proofs.YtdjegpmjhfbamaaDoor
open Go.RowKit Go.Proofs

def fourI (l : List UInt8) : Int := match fourP l with | some n => (n : Nat) | none => -1

set_option maxRecDepth 100000 in
set_option maxHeartbeats 4000000 in
theorem rfour_calls (s : ByteArray) (hs : s.size ≤ 140737488355328) (p : Nat) (hp : p ≤ s.size) (w : World) : Calls Tryd.prog 122 #[.string s, .int .i64 p] w fun e w' =>
    e = .returned (.int .i64 (fourI (s.data.toList.drop p))) ∧ w = w' := by
  obtain ⟨R, hR⟩ : ∃ R, R = fourI (s.data.toList.drop p) := ⟨_, rfl⟩
  rw [← hR]
  have hll : s.data.toList.length = s.size := by simp
  unfold fourI at hR
  rw [four_acc, List.length_drop, hll] at hR
  have hacc : Hid (∀ j, j < 4 → accP (s.data.toList.drop p) j = none → accP (s.data.toList.drop p) 4 = none) := fun j hj h => by
    match j, hj with
    | 0, _ => cases h
    | 1, _ => simp only [accP] at h ⊢; rw [h]; rfl
    | 2, _ => simp only [accP] at h ⊢; rw [h]; rfl
    | 3, _ => simp only [accP] at h ⊢; rw [h]; rfl
  by_cases h4 : s.size < p + 4
  · rw [if_neg (by omega)] at hR
    obtain rfl : R = -1 := hR
    have h4' : (s.size : Int) < (p : Int) + 4 := by omega
    clear hll h4
    go_enter Tryd.func122, Tryd.ntmps122
    go_wp2_with fail
    go_returns
    exact ⟨rfl, rfl⟩
  rw [if_pos (by omega)] at hR
  have h4' : (p : Int) + 4 ≤ (s.size : Int) := by omega
  replace hR := hid hR
  replace hll := hid hll
  go_enter Tryd.func122, Tryd.ntmps122
  go_wp2_with fail
  go_loopg [5, 6] 4 (fun g n i wr => ∃ (j q a : Nat), g + j = 4 ∧ q = p + j ∧ i = .int .i64 q ∧ n = .int .i64 a ∧ accP (s.data.toList.drop p) j = some a ∧ wr = w)
  case atStart => exact ⟨0, p, 0, by omega, rfl, rfl, rfl, rfl, rfl⟩
  case round =>
    obtain ⟨j, q, a, hj, hq, rfl, rfl, ha, rfl⟩ := hrel
    have hal := acc_lt ha
    replace ha := hid ha
    by_cases hlt : j < 4
    · have hal2 : a < 4096 := by
        have : 16 ^ j ≤ 16 ^ 3 := Nat.pow_le_pow_right (by omega) (by omega)
        omega
      have hqs : q < s.size := by omega
      have hb := bt_at s q hqs
      have hb8 := bt_lt s q
      have hbd : Hid (bt s q = ((s.data.toList.drop p).getD j 0).toNat) := by show _ = _; unfold bt; rw [List.getD_eq_getElem?_getD, List.getD_eq_getElem?_getD, List.getElem?_drop, hq]
      generalize bt s q = c at *
      have hsucc : Hid (accP (s.data.toList.drop p) (j + 1) = (digP c).map fun d => a * 16 + d) := by
        show _ = _
        rw [accP, ha.out, hbd.out]; rfl
      clear hal
      have hi0 : (0 : Int) ≤ (q : Int) := by omega
      have hi1 : (q : Int) < (s.size : Int) := by omega
      have hi2 : (q : Int) < (p : Int) + 4 := by omega
      have hR0 : Hid (digP c = none → R = -1) := fun hd => by
        rw [hR.out]
        rw [hd] at hsucc
        match j, hlt, hsucc with
        | 0, _, h => rw [hacc.out 1 (by omega) h.out]
        | 1, _, h => rw [hacc.out 2 (by omega) h.out]
        | 2, _, h => rw [hacc.out 3 (by omega) h.out]
        | 3, _, h => rw [h.out]; rfl
      replace hq := hid hq
      replace hbd := hid hbd
      rcases Nat.lt_or_ge c 48 with c1 | c1
      · have hd : Hid (digP c = none) := by show _ = _; unfold digP; rw [if_neg (by omega), if_neg (by omega), if_neg (by omega)]
        go_wp2_with fail
        go_returns
        exact ⟨by rw [hR0.out hd.out]; rfl, rfl⟩
      rcases Nat.lt_or_ge c 58 with c2 | c2
      · have hd : Hid (digP c = some (c - 48)) := by show _ = _; unfold digP; rw [if_pos (by omega)]
        obtain ⟨m, hm⟩ : ∃ m : Nat, m = a * 16 + (c - 48) := ⟨_, rfl⟩
        have hmi : Hid ((m : Int) = (a : Int) * 16 + (c : Int) - 48) := by show _ = _; omega
        replace hm := hid hm
        go_wp2_with fail
        go_roundg (4 - (j + 1))
        case measure => omega
        case rel => exact ⟨j + 1, q + 1, m, by omega, by rw [hq.out]; omega, by go_num, by rw [hmi.out], by rw [hsucc.out, hd.out, hm.out]; rfl, rfl⟩
      rcases Nat.lt_or_ge c 65 with c3 | c3
      · have hd : Hid (digP c = none) := by show _ = _; unfold digP; rw [if_neg (by omega), if_neg (by omega), if_neg (by omega)]
        go_wp2_with fail
        go_returns
        exact ⟨by rw [hR0.out hd.out]; rfl, rfl⟩
      rcases Nat.lt_or_ge c 71 with c4 | c4
      · have hd : Hid (digP c = some (c - 55)) := by show _ = _; unfold digP; rw [if_neg (by omega), if_neg (by omega), if_pos (by omega)]
        obtain ⟨m, hm⟩ : ∃ m : Nat, m = a * 16 + (c - 55) := ⟨_, rfl⟩
        have hmi : Hid ((m : Int) = (a : Int) * 16 + (c : Int) - 55) := by show _ = _; omega
        replace hm := hid hm
        go_wp2_with fail
        go_roundg (4 - (j + 1))
        case measure => omega
        case rel => exact ⟨j + 1, q + 1, m, by omega, by rw [hq.out]; omega, by go_num, by rw [hmi.out], by rw [hsucc.out, hd.out, hm.out]; rfl, rfl⟩
      rcases Nat.lt_or_ge c 97 with c5 | c5
      · have hd : Hid (digP c = none) := by show _ = _; unfold digP; rw [if_neg (by omega), if_neg (by omega), if_neg (by omega)]
        go_wp2_with fail
        go_returns
        exact ⟨by rw [hR0.out hd.out]; rfl, rfl⟩
      rcases Nat.lt_or_ge c 103 with c6 | c6
      · have hd : Hid (digP c = some (c - 87)) := by show _ = _; unfold digP; rw [if_neg (by omega), if_pos (by omega)]
        obtain ⟨m, hm⟩ : ∃ m : Nat, m = a * 16 + (c - 87) := ⟨_, rfl⟩
        have hmi : Hid ((m : Int) = (a : Int) * 16 + (c : Int) - 87) := by show _ = _; omega
        replace hm := hid hm
        go_wp2_with fail
        go_roundg (4 - (j + 1))
        case measure => omega
        case rel => exact ⟨j + 1, q + 1, m, by omega, by rw [hq.out]; omega, by go_num, by rw [hmi.out], by rw [hsucc.out, hd.out, hm.out]; rfl, rfl⟩
      · have hd : Hid (digP c = none) := by show _ = _; unfold digP; rw [if_neg (by omega), if_neg (by omega), if_neg (by omega)]
        go_wp2_with fail
        go_returns
        exact ⟨by rw [hR0.out hd.out]; rfl, rfl⟩
    · obtain rfl : j = 4 := by omega
      have hq4 : (p : Int) + 4 ≤ (q : Int) := by omega
      replace hq := hid hq
      go_wp2_with fail
      go_returns
      exact ⟨by rw [hR.out, ha.out]; rfl, rfl⟩

/-- New memory, and a slice of these bytes in it, to be read. -/
def Byt (w w' : World) (l : List UInt8) (v : Value) : Prop := ∃ g cap, v = .slice (some ⟨g, 0, none⟩) l.length cap ∧ Src w' g l ∧ Below w.heap.size w w'
theorem Made.byt {w w' : World} {l : List UInt8} {v : Value} (h : Made w w' l v) : Byt w w' l v := by
  obtain ⟨g, cap, rfl, hb⟩ := h
  exact ⟨g, cap, rfl, hb.src, hb.below⟩
theorem cell_any (w : World) (o : Obj) {cs : Array Value} {t : TypeId} {fz : Nat × Nat} (ho : o = .cells cs t fz) (j : Nat) : (w.alloc o).cell? ⟨w.heap.size, j, none⟩ = cs[j]? := by
  subst ho
  exact cell_of_row _ _ _ _ _ _ (heap_alloc_new w _)
/-- The bytes of a text, as a slice. -/
theorem byt_text {w : World} {s : ByteArray} {c n : Nat} {fz : Nat × Nat} {g : Nat} {v : Value} {l : List UInt8} (hl : l = s.data.toList) (hn : n = l.length) (hg : g = w.heap.size) (hv : v = .slice (some ⟨g, 0, none⟩) n c) : Byt w (w.drew.alloc (.cells (bytesRow s c) 5 fz)) l v := by
  subst hl hg hv hn
  refine ⟨w.heap.size, c, rfl, fun j u hu => ?_, (Below.refl _ _).drew.step (below_new _ _)⟩
  have hj : j < s.data.toList.length := by have := (List.getElem?_eq_some_iff.1 hu).1; rwa [bcells_length] at this
  have ha : (⟨w.heap.size, 0, none⟩ : Addr).add j = ⟨w.heap.size, j, none⟩ := by unfold Addr.add; split <;> simp_all
  rw [ha]
  show (w.drew.alloc _).cell? ⟨w.drew.heap.size, j, none⟩ = _
  rw [cell_any _ _ rfl]
  unfold bytesRow
  rw [Array.getElem?_append_left (by simpa using hj), ← hu]
  unfold bcells
  simp
def PartTold (p : Nat) (w : World) (R : Int × List UInt8 × Nat) (e : Ending) (w' : World) : Prop :=
  ∃ x y, e = .returned (.tuple #[x, .int .i64 y, .int .i64 R.1]) ∧ Below w.heap.size w w' ∧ (R.1 = -1 → y = (p : Int) + 1) ∧ (R.1 = 0 → y = ((p + R.2.2 : Nat) : Int) ∧ Byt w w' R.2.1 x)
theorem part_err {p : Nat} {w w' : World} {R : Int × List UInt8 × Nat} {x : Value} {y c : Int} {b : List UInt8} {k : Nat} (h : R = (c, b, k)) (h1 : c ≠ -1) (h0 : c ≠ 0) (hb : Below w.heap.size w w') : PartTold p w R (.returned (.tuple #[x, .int .i64 y, .int .i64 c])) w' := by
  subst h
  exact ⟨x, y, rfl, hb, fun h => absurd h h1, fun h => absurd h h0⟩
theorem part_fin {p : Nat} {w w' : World} {R : Int × List UInt8 × Nat} {x : Value} {y : Int} {b : List UInt8} {k : Nat} (h : R = (-1, b, k)) (hy : y = (p : Int) + 1) (hb : Below w.heap.size w w') : PartTold p w R (.returned (.tuple #[x, .int .i64 y, .int .i64 (-1)])) w' := by
  subst h
  exact ⟨x, y, rfl, hb, fun _ => hy, (fun h => by cases h)⟩
theorem part_good {p : Nat} {w w' : World} {R : Int × List UInt8 × Nat} {x : Value} {y : Int} {b : List UInt8} {k : Nat} (h : R = (0, b, k)) (hy : y = ((p + k : Nat) : Int)) (hm : Byt w w' b x) : PartTold p w R (.returned (.tuple #[x, .int .i64 y, .int .i64 0])) w' := by
  subst h
  obtain ⟨g, cap, h1, h2, h3⟩ := hm
  exact ⟨x, y, rfl, h3, (fun h => by cases h), fun _ => ⟨hy, g, cap, h1, h2, h3⟩⟩
/-- The letters behind the stroke, one by one. -/
def lettP (j : Nat) : Nat := [34, 92, 47, 98, 102, 110, 114, 116].getD j 0
theorem back_none {d : Nat} (h : ∀ k, k < 8 → d ≠ lettP k) : backP d = none := by
  have h0 : d ≠ 34 := h 0 (by omega)
  have h1 : d ≠ 92 := h 1 (by omega)
  have h2 : d ≠ 47 := h 2 (by omega)
  have h3 : d ≠ 98 := h 3 (by omega)
  have h4 : d ≠ 102 := h 4 (by omega)
  have h5 : d ≠ 110 := h 5 (by omega)
  have h6 : d ≠ 114 := h 6 (by omega)
  have h7 : d ≠ 116 := h 7 (by omega)
  unfold backP
  rw [if_neg (by omega), if_neg h3, if_neg h4, if_neg h5, if_neg h6, if_neg h7]
theorem ne_next {d j : Nat} (h : ∀ k, k < j → d ≠ lettP k) (hd : d ≠ lettP j) : ∀ k, k < j + 1 → d ≠ lettP k := fun k hk => by
  by_cases e : k = j
  · subst e; exact hd
  · exact h k (by omega)
theorem byt_one {w w' : World} (hb : Below w.heap.size w w') (c : UInt8) {z : Int} (hz : z = c.toNat) {g : Nat} (hg : g = w'.heap.size) : Byt w (w'.alloc (.cells #[.int .u8 z] 5)) [c] (.slice (some ⟨g, 0, none⟩) 1 1) := by
  subst hz hg
  exact (show Made w _ [c] _ from ⟨_, _, rfl, buf_new [c] hb hb.size rfl (by unfold maxLen; simp)⟩).byt
theorem Byt.base {w w1 w' : World} {l : List UInt8} {v : Value} (h : Byt w1 w' l v) (hb : Below w.heap.size w w1) : Byt w w' l v := by
  obtain ⟨g, cap, hv, hs, hm⟩ := h
  exact ⟨g, cap, hv, hs, hb.step hm⟩

set_option maxRecDepth 100000 in
set_option maxHeartbeats 32000000 in
theorem rpart_calls (s : ByteArray) (hs : s.size ≤ 35184372088832) (p : Nat) (hp : p ≤ s.size) (w : World) : Calls Tryd.prog 105 #[.string s, .int .i64 p] w (PartTold p w (partP (s.data.toList.drop p))) := by
  obtain ⟨R, hR⟩ : ∃ R, R = partP (s.data.toList.drop p) := ⟨_, rfl⟩
  rw [← hR]
  have hll : Hid (s.data.toList.length = s.size) := by show _ = _; simp
  by_cases he : p = s.size
  · subst he
    rw [List.drop_eq_nil_of_le (by rw [hll.out]; exact Nat.le_refl _)] at hR
    replace hR : Hid (R = (4, [], 0)) := hR
    go_enter Tryd.func105, Tryd.ntmps105
    go_wp2_with fail
    go_returns
    exact part_err hR.out (by decide) (by decide) (Below.refl _ _)
  have hlt : p < s.size := by omega
  have hlt' : (p : Int) < (s.size : Int) := by omega
  have hp0 : (0 : Int) ≤ (p : Int) := by omega
  clear he
  obtain ⟨x, hx, hxc⟩ := bt_get hlt
  have hb := bt_at s p hlt
  have hb8 := bt_lt s p
  have hnx := hid (fun w => next_calls s (by omega) p hlt w)
  have hnS : Hid (nextS s p = stepD (s.data.toList.drop p)) := by
    show _ = _
    unfold nextS stepD bt
    simp only [List.getD_eq_getElem?_getD, List.getElem?_drop, List.length_drop, hll.out, Nat.add_zero]
  generalize hbt : bt s p = c at *
  replace hR : Hid (R = partP (x :: s.data.toList.drop (p + 1))) := by show _ = _; rw [hR, hx]
  replace hx := hid hx
  replace hxc := hid hxc
  replace hbt := hid hbt
  by_cases c34 : c = 34
  · subst c34
    replace hR : Hid (R = (-1, [], 1)) := by show _ = _; rw [hR.out, u8_of hxc.out (by omega)]; rfl
    clear hnx
    go_enter Tryd.func105, Tryd.ntmps105
    go_wp2_with fail
    go_returns
    exact part_fin hR.out rfl (Below.refl _ _)
  have d34 : ((c : Int) == 34) = false := by simpa using (by omega : ¬ (c : Int) = 34)
  have x34 : x ≠ 34 := fun e => c34 (by rw [← hxc.out, e]; rfl)
  by_cases c92 : ¬ c = 92
  · have d92 : ((c : Int) == 92) = false := by simpa using (by omega : ¬ (c : Int) = 92)
    have d92' : ((c : Int) != 92) = true := by simpa using (by omega : ¬ (c : Int) = 92)
    have x92 : x ≠ 92 := fun e => c92 (by rw [← hxc.out, e]; rfl)
    clear c34 c92
    by_cases c32 : c < 32
    · replace hR : Hid (R = (4, [], 0)) := by show _ = _; rw [hR.out]; exact part_low x34 x92 (by rw [hxc.out]; exact c32)
      have i32 : (c : Int) < 32 := by omega
      clear x34 x92 hnx
      go_enter Tryd.func105, Tryd.ntmps105
      go_wp2_with fail
      go_returns
      exact part_err hR.out (by decide) (by decide) (Below.refl _ _)
    have i32 : (32 : Int) ≤ (c : Int) := by omega
    cases hS : nextS s p with
    | none =>
      have hst : stepD (x :: s.data.toList.drop (p + 1)) = none := by rw [← hx.out, ← hnS.out]; exact hS
      replace hR : Hid (R = (11, [], 0)) := by show _ = _; rw [hR.out]; exact part_bad x34 x92 (by rw [hxc.out]; exact c32) hst
      rw [hS] at hnx
      have hnx' : Hid (∀ w, Calls Tryd.prog 75 #[.string s, .int .i64 p] w fun e w' => ∃ x y : Int, e = .returned (.tuple #[.int .i64 x, .int .i64 y, .bool false]) ∧ w = w') := fun w => (hnx.out w).mono (by rintro e w' ⟨⟨a, b, h, _⟩, h2⟩; exact ⟨a, b, h, h2⟩)
      clear x34 x92 hst hS hnx c32
      go_enter Tryd.func105, Tryd.ntmps105
      go_wp2_with fail
      refine (hnx'.out _).mono ?_
      rintro e w1 ⟨a, b, rfl, rfl⟩
      go_wp2_with fail
      go_returns
      exact part_err hR.out (by decide) (by decide) (Below.refl _ _)
    | some dd =>
      obtain ⟨dv, dz⟩ := dd
      have hst : stepD (x :: s.data.toList.drop (p + 1)) = some (dv, dz) := by rw [← hx.out, ← hnS.out]; exact hS
      have hsz := stepD_some hst (by simp)
      have hlen : (x :: s.data.toList.drop (p + 1)).length = s.size - p := by rw [← hx.out, List.length_drop, hll.out]
      rw [hlen] at hsz
      replace hR : Hid (R = (0, (s.data.toList.drop p).take dz, dz)) := by show _ = _; rw [hR.out, hx.out]; exact part_ok x34 x92 (by rw [hxc.out]; exact c32) hst
      rw [hS] at hnx
      have hnx' : Hid (∀ w, Calls Tryd.prog 75 #[.string s, .int .i64 p] w fun e w' => ∃ x : Int, e = .returned (.tuple #[.int .i64 x, .int .i64 ((p + dz : Nat) : Int), .bool true]) ∧ w = w') := fun w => (hnx.out w).mono (by
        rintro e w' ⟨⟨a, b, h, h3⟩, h2⟩
        obtain ⟨_, rfl⟩ := h3 _ rfl
        exact ⟨a, by rw [h, Int.natCast_add]; rfl, h2⟩)
      have hpz : p + dz ≤ s.size := by omega
      have hpz' : ((p + dz : Nat) : Int) ≤ (s.size : Int) := by omega
      have hpq : (p : Int) ≤ ((p + dz : Nat) : Int) := by omega
      have htl : ((s.data.toList.drop p).take dz).length = dz := by rw [List.length_take, List.length_drop, hll.out]; omega
      have htx := hid (take_ext s p dz)
      have hne : Hid ((s.data.toList.drop p).take dz ≠ []) := fun h => by rw [h] at htl; simp at htl; omega
      replace htl := hid htl
      clear x34 x92 hst hS hnx c32 hlen hsz
      generalize hQ : p + dz = Q at *
      replace hQ := hid hQ
      go_enter Tryd.func105, Tryd.ntmps105
      go_wp2_with fail
      refine (hnx'.out _).mono ?_
      rintro e w1 ⟨a, rfl, rfl⟩
      have hcv := run_bytes_of_string (P := Tryd.prog) w 9 45 5 (s.extract p Q) Tryd.underlying9 Tryd.underlying45 Tryd.underlying5
      generalize grownCap w (s.extract p Q).size 0 5 = C at *
      go_wp2_with fail
      go_returns
      exact part_good hR.out (by rw [hQ.out]) (byt_text htx.out.symm (by rw [htl.out]; have := hQ.out; omega) rfl rfl)
  obtain rfl : c = 92 := by omega
  replace hR : Hid (R = partP (92 :: s.data.toList.drop (p + 1))) := by show _ = _; rw [hR.out, u8_of hxc.out (by omega)]; rfl
  clear c92 c34 hnx hnS x34
  by_cases he : p + 1 = s.size
  · rw [List.drop_eq_nil_of_le (by rw [hll.out]; omega)] at hR
    replace hR : Hid (R = (4, [], 0)) := hR
    have hle : (s.size : Int) ≤ (p : Int) + 1 := by omega
    clear he
    go_enter Tryd.func105, Tryd.ntmps105
    go_wp2_with fail
    go_returns
    exact part_err hR.out (by decide) (by decide) (Below.refl _ _)
  have hp1 : p + 1 < s.size := by omega
  have hp1' : (p : Int) + 1 < (s.size : Int) := by omega
  have hp0' : (0 : Int) ≤ (p : Int) + 1 := by omega
  clear he
  obtain ⟨y, hy, hyc⟩ := bt_get hp1
  have hb1 := bt_at s (p + 1) hp1
  have hb81 := bt_lt s (p + 1)
  generalize hbt1 : bt s (p + 1) = d at *
  replace hR : Hid (R = partP (92 :: y :: s.data.toList.drop (p + 1 + 1))) := by show _ = _; rw [hR.out, hy]
  replace hy := hid hy
  replace hyc := hid hyc
  replace hbt1 := hid hbt1
  go_enter Tryd.func105, Tryd.ntmps105
  go_wp2_with fail
  go_loopg [11] 8 (fun g i wr => ∃ j : Nat, g + j = 8 ∧ i = .int .i64 j ∧ (∀ k, k < j → d ≠ lettP k) ∧ Below w.heap.size w wr)
  case atStart => exact ⟨0, by omega, rfl, (fun k hk => by omega), Below.refl _ _⟩
  case round =>
    obtain ⟨j, hj, rfl, hne, hbr⟩ := hrel
    replace hne := hid hne
    have hj9 : j = 0 ∨ j = 1 ∨ j = 2 ∨ j = 3 ∨ j = 4 ∨ j = 5 ∨ j = 6 ∨ j = 7 ∨ j = 8 := by omega
    rcases hj9 with rfl | rfl | rfl | rfl | rfl | rfl | rfl | rfl | rfl
    · by_cases hd : d = 34
      · subst hd
        have hpart : Hid (R = (0, [UInt8.ofNat 34], 2)) := by
          show _ = _
          rw [hR.out]
          exact part_letter (by rw [hyc.out]; rfl)
        have i0 : ∀ w, (Instr.index 149 (.agg #[.int .u8 34, .int .u8 92, .int .u8 47, .int .u8 8, .int .u8 12, .int .u8 10, .int .u8 13, .int .u8 9]) (.int .i64 0)).run Tryd.prog w = .ok (.int .u8 34) w := fun _ => by kernel_rfl
        go_upto_region 18 with fail
        refine wp_later (by kernel_rfl) (by kernel_rfl) ?_
        repeat (go_big_quiet_step (fail))
        refine wpQuiet_nil ?_
        intro _ hw'
        obtain ⟨pp, hpp⟩ := hw'
        subst hpp
        go_wp2_with fail
        go_returns
        exact part_good hpart.out (by go_num) (byt_one (hbr.step pp.h) _ rfl rfl)
      · have ed : ((d : Int) == ((((⟨#[34, 92, 47, 98, 102, 110, 114, 116]⟩ : ByteArray)[0]'(by decide)).toNat : Nat) : Int)) = false := by
          show ((d : Int) == 34) = false
          simpa using (by omega : ¬ (d : Int) = 34)
        have hne2 := hid (ne_next hne.out (show d ≠ lettP 0 from hd))
        clear hd
        go_upto_region 18 with fail
        refine wp_later (by kernel_rfl) (by kernel_rfl) ?_
        repeat (go_big_quiet_step (fail))
        refine wpQuiet_nil ?_
        intro _ hw'
        obtain ⟨pp, hpp⟩ := hw'
        subst hpp
        go_wp2_with fail
        go_roundg (8 - (0 + 1))
        case measure => omega
        case rel => exact ⟨0 + 1, by omega, by go_num, hne2.out, hbr.step pp.h⟩
    · by_cases hd : d = 92
      · subst hd
        have hpart : Hid (R = (0, [UInt8.ofNat 92], 2)) := by
          show _ = _
          rw [hR.out]
          exact part_letter (by rw [hyc.out]; rfl)
        have i0 : ∀ w, (Instr.index 149 (.agg #[.int .u8 34, .int .u8 92, .int .u8 47, .int .u8 8, .int .u8 12, .int .u8 10, .int .u8 13, .int .u8 9]) (.int .i64 1)).run Tryd.prog w = .ok (.int .u8 92) w := fun _ => by kernel_rfl
        go_upto_region 18 with fail
        refine wp_later (by kernel_rfl) (by kernel_rfl) ?_
        repeat (go_big_quiet_step (fail))
        refine wpQuiet_nil ?_
        intro _ hw'
        obtain ⟨pp, hpp⟩ := hw'
        subst hpp
        go_wp2_with fail
        go_returns
        exact part_good hpart.out (by go_num) (byt_one (hbr.step pp.h) _ rfl rfl)
      · have ed : ((d : Int) == ((((⟨#[34, 92, 47, 98, 102, 110, 114, 116]⟩ : ByteArray)[1]'(by decide)).toNat : Nat) : Int)) = false := by
          show ((d : Int) == 92) = false
          simpa using (by omega : ¬ (d : Int) = 92)
        have hne2 := hid (ne_next hne.out (show d ≠ lettP 1 from hd))
        clear hd
        go_upto_region 18 with fail
        refine wp_later (by kernel_rfl) (by kernel_rfl) ?_
        repeat (go_big_quiet_step (fail))
        refine wpQuiet_nil ?_
        intro _ hw'
        obtain ⟨pp, hpp⟩ := hw'
        subst hpp
        go_wp2_with fail
        go_roundg (8 - (1 + 1))
        case measure => omega
        case rel => exact ⟨1 + 1, by omega, by go_num, hne2.out, hbr.step pp.h⟩
    · by_cases hd : d = 47
      · subst hd
        have hpart : Hid (R = (0, [UInt8.ofNat 47], 2)) := by
          show _ = _
          rw [hR.out]
          exact part_letter (by rw [hyc.out]; rfl)
        have i0 : ∀ w, (Instr.index 149 (.agg #[.int .u8 34, .int .u8 92, .int .u8 47, .int .u8 8, .int .u8 12, .int .u8 10, .int .u8 13, .int .u8 9]) (.int .i64 2)).run Tryd.prog w = .ok (.int .u8 47) w := fun _ => by kernel_rfl
        go_upto_region 18 with fail
        refine wp_later (by kernel_rfl) (by kernel_rfl) ?_
        repeat (go_big_quiet_step (fail))
        refine wpQuiet_nil ?_
        intro _ hw'
        obtain ⟨pp, hpp⟩ := hw'
        subst hpp
        go_wp2_with fail
        go_returns
        exact part_good hpart.out (by go_num) (byt_one (hbr.step pp.h) _ rfl rfl)
      · have ed : ((d : Int) == ((((⟨#[34, 92, 47, 98, 102, 110, 114, 116]⟩ : ByteArray)[2]'(by decide)).toNat : Nat) : Int)) = false := by
          show ((d : Int) == 47) = false
          simpa using (by omega : ¬ (d : Int) = 47)
        have hne2 := hid (ne_next hne.out (show d ≠ lettP 2 from hd))
        clear hd
        go_upto_region 18 with fail
        refine wp_later (by kernel_rfl) (by kernel_rfl) ?_
        repeat (go_big_quiet_step (fail))
        refine wpQuiet_nil ?_
        intro _ hw'
        obtain ⟨pp, hpp⟩ := hw'
        subst hpp
        go_wp2_with fail
        go_roundg (8 - (2 + 1))
        case measure => omega
        case rel => exact ⟨2 + 1, by omega, by go_num, hne2.out, hbr.step pp.h⟩
    · by_cases hd : d = 98
      · subst hd
        have hpart : Hid (R = (0, [UInt8.ofNat 8], 2)) := by
          show _ = _
          rw [hR.out]
          exact part_letter (by rw [hyc.out]; rfl)
        have i0 : ∀ w, (Instr.index 149 (.agg #[.int .u8 34, .int .u8 92, .int .u8 47, .int .u8 8, .int .u8 12, .int .u8 10, .int .u8 13, .int .u8 9]) (.int .i64 3)).run Tryd.prog w = .ok (.int .u8 8) w := fun _ => by kernel_rfl
        go_upto_region 18 with fail
        refine wp_later (by kernel_rfl) (by kernel_rfl) ?_
        repeat (go_big_quiet_step (fail))
        refine wpQuiet_nil ?_
        intro _ hw'
        obtain ⟨pp, hpp⟩ := hw'
        subst hpp
        go_wp2_with fail
        go_returns
        exact part_good hpart.out (by go_num) (byt_one (hbr.step pp.h) _ rfl rfl)
      · have ed : ((d : Int) == ((((⟨#[34, 92, 47, 98, 102, 110, 114, 116]⟩ : ByteArray)[3]'(by decide)).toNat : Nat) : Int)) = false := by
          show ((d : Int) == 98) = false
          simpa using (by omega : ¬ (d : Int) = 98)
        have hne2 := hid (ne_next hne.out (show d ≠ lettP 3 from hd))
        clear hd
        go_upto_region 18 with fail
        refine wp_later (by kernel_rfl) (by kernel_rfl) ?_
        repeat (go_big_quiet_step (fail))
        refine wpQuiet_nil ?_
        intro _ hw'
        obtain ⟨pp, hpp⟩ := hw'
        subst hpp
        go_wp2_with fail
        go_roundg (8 - (3 + 1))
        case measure => omega
        case rel => exact ⟨3 + 1, by omega, by go_num, hne2.out, hbr.step pp.h⟩
    · by_cases hd : d = 102
      · subst hd
        have hpart : Hid (R = (0, [UInt8.ofNat 12], 2)) := by
          show _ = _
          rw [hR.out]
          exact part_letter (by rw [hyc.out]; rfl)
        have i0 : ∀ w, (Instr.index 149 (.agg #[.int .u8 34, .int .u8 92, .int .u8 47, .int .u8 8, .int .u8 12, .int .u8 10, .int .u8 13, .int .u8 9]) (.int .i64 4)).run Tryd.prog w = .ok (.int .u8 12) w := fun _ => by kernel_rfl
        go_upto_region 18 with fail
        refine wp_later (by kernel_rfl) (by kernel_rfl) ?_
        repeat (go_big_quiet_step (fail))
        refine wpQuiet_nil ?_
        intro _ hw'
        obtain ⟨pp, hpp⟩ := hw'
        subst hpp
        go_wp2_with fail
        go_returns
        exact part_good hpart.out (by go_num) (byt_one (hbr.step pp.h) _ rfl rfl)
      · have ed : ((d : Int) == ((((⟨#[34, 92, 47, 98, 102, 110, 114, 116]⟩ : ByteArray)[4]'(by decide)).toNat : Nat) : Int)) = false := by
          show ((d : Int) == 102) = false
          simpa using (by omega : ¬ (d : Int) = 102)
        have hne2 := hid (ne_next hne.out (show d ≠ lettP 4 from hd))
        clear hd
        go_upto_region 18 with fail
        refine wp_later (by kernel_rfl) (by kernel_rfl) ?_
        repeat (go_big_quiet_step (fail))
        refine wpQuiet_nil ?_
        intro _ hw'
        obtain ⟨pp, hpp⟩ := hw'
        subst hpp
        go_wp2_with fail
        go_roundg (8 - (4 + 1))
        case measure => omega
        case rel => exact ⟨4 + 1, by omega, by go_num, hne2.out, hbr.step pp.h⟩
    · by_cases hd : d = 110
      · subst hd
        have hpart : Hid (R = (0, [UInt8.ofNat 10], 2)) := by
          show _ = _
          rw [hR.out]
          exact part_letter (by rw [hyc.out]; rfl)
        have i0 : ∀ w, (Instr.index 149 (.agg #[.int .u8 34, .int .u8 92, .int .u8 47, .int .u8 8, .int .u8 12, .int .u8 10, .int .u8 13, .int .u8 9]) (.int .i64 5)).run Tryd.prog w = .ok (.int .u8 10) w := fun _ => by kernel_rfl
        go_upto_region 18 with fail
        refine wp_later (by kernel_rfl) (by kernel_rfl) ?_
        repeat (go_big_quiet_step (fail))
        refine wpQuiet_nil ?_
        intro _ hw'
        obtain ⟨pp, hpp⟩ := hw'
        subst hpp
        go_wp2_with fail
        go_returns
        exact part_good hpart.out (by go_num) (byt_one (hbr.step pp.h) _ rfl rfl)
      · have ed : ((d : Int) == ((((⟨#[34, 92, 47, 98, 102, 110, 114, 116]⟩ : ByteArray)[5]'(by decide)).toNat : Nat) : Int)) = false := by
          show ((d : Int) == 110) = false
          simpa using (by omega : ¬ (d : Int) = 110)
        have hne2 := hid (ne_next hne.out (show d ≠ lettP 5 from hd))
        clear hd
        go_upto_region 18 with fail
        refine wp_later (by kernel_rfl) (by kernel_rfl) ?_
        repeat (go_big_quiet_step (fail))
        refine wpQuiet_nil ?_
        intro _ hw'
        obtain ⟨pp, hpp⟩ := hw'
        subst hpp
        go_wp2_with fail
        go_roundg (8 - (5 + 1))
        case measure => omega
        case rel => exact ⟨5 + 1, by omega, by go_num, hne2.out, hbr.step pp.h⟩
    · by_cases hd : d = 114
      · subst hd
        have hpart : Hid (R = (0, [UInt8.ofNat 13], 2)) := by
          show _ = _
          rw [hR.out]
          exact part_letter (by rw [hyc.out]; rfl)
        have i0 : ∀ w, (Instr.index 149 (.agg #[.int .u8 34, .int .u8 92, .int .u8 47, .int .u8 8, .int .u8 12, .int .u8 10, .int .u8 13, .int .u8 9]) (.int .i64 6)).run Tryd.prog w = .ok (.int .u8 13) w := fun _ => by kernel_rfl
        go_upto_region 18 with fail
        refine wp_later (by kernel_rfl) (by kernel_rfl) ?_
        repeat (go_big_quiet_step (fail))
        refine wpQuiet_nil ?_
        intro _ hw'
        obtain ⟨pp, hpp⟩ := hw'
        subst hpp
        go_wp2_with fail
        go_returns
        exact part_good hpart.out (by go_num) (byt_one (hbr.step pp.h) _ rfl rfl)
      · have ed : ((d : Int) == ((((⟨#[34, 92, 47, 98, 102, 110, 114, 116]⟩ : ByteArray)[6]'(by decide)).toNat : Nat) : Int)) = false := by
          show ((d : Int) == 114) = false
          simpa using (by omega : ¬ (d : Int) = 114)
        have hne2 := hid (ne_next hne.out (show d ≠ lettP 6 from hd))
        clear hd
        go_upto_region 18 with fail
        refine wp_later (by kernel_rfl) (by kernel_rfl) ?_
        repeat (go_big_quiet_step (fail))
        refine wpQuiet_nil ?_
        intro _ hw'
        obtain ⟨pp, hpp⟩ := hw'
        subst hpp
        go_wp2_with fail
        go_roundg (8 - (6 + 1))
        case measure => omega
        case rel => exact ⟨6 + 1, by omega, by go_num, hne2.out, hbr.step pp.h⟩
    · by_cases hd : d = 116
      · subst hd
        have hpart : Hid (R = (0, [UInt8.ofNat 9], 2)) := by
          show _ = _
          rw [hR.out]
          exact part_letter (by rw [hyc.out]; rfl)
        have i0 : ∀ w, (Instr.index 149 (.agg #[.int .u8 34, .int .u8 92, .int .u8 47, .int .u8 8, .int .u8 12, .int .u8 10, .int .u8 13, .int .u8 9]) (.int .i64 7)).run Tryd.prog w = .ok (.int .u8 9) w := fun _ => by kernel_rfl
        go_upto_region 18 with fail
        refine wp_later (by kernel_rfl) (by kernel_rfl) ?_
        repeat (go_big_quiet_step (fail))
        refine wpQuiet_nil ?_
        intro _ hw'
        obtain ⟨pp, hpp⟩ := hw'
        subst hpp
        go_wp2_with fail
        go_returns
        exact part_good hpart.out (by go_num) (byt_one (hbr.step pp.h) _ rfl rfl)
      · have ed : ((d : Int) == ((((⟨#[34, 92, 47, 98, 102, 110, 114, 116]⟩ : ByteArray)[7]'(by decide)).toNat : Nat) : Int)) = false := by
          show ((d : Int) == 116) = false
          simpa using (by omega : ¬ (d : Int) = 116)
        have hne2 := hid (ne_next hne.out (show d ≠ lettP 7 from hd))
        clear hd
        go_upto_region 18 with fail
        refine wp_later (by kernel_rfl) (by kernel_rfl) ?_
        repeat (go_big_quiet_step (fail))
        refine wpQuiet_nil ?_
        intro _ hw'
        obtain ⟨pp, hpp⟩ := hw'
        subst hpp
        go_wp2_with fail
        go_roundg (8 - (7 + 1))
        case measure => omega
        case rel => exact ⟨7 + 1, by omega, by go_num, hne2.out, hbr.step pp.h⟩
    · have hno : Hid (backP y.toNat = none) := by show _ = _; rw [hyc.out]; exact back_none hne.out
      rcases Classical.em (¬ (d = 117)) with c117 | c117
      · have e117 : ((d : Int) != 117) = true := by simpa using (by omega : ¬ (d : Int) = 117)
        have e117' : ((d : Int) == 117) = false := by simpa using (by omega : ¬ (d : Int) = 117)
        replace hR : Hid (R = (4, [], 0)) := by show _ = _; rw [hR.out]; exact part_no hno.out (fun e => c117 (by rw [← hyc.out, e]; rfl))
        clear c117
        go_wp2_with fail
        go_returns
        exact part_err hR.out (by decide) (by decide) hbr
      · obtain rfl : d = 117 := by omega
        clear c117
        replace hR : Hid (R = partP (92 :: 117 :: s.data.toList.drop (p + 1 + 1))) := by show _ = _; rw [hR.out, u8_of hyc.out (by omega)]; rfl
        replace hR := hid (hR.out.trans (part_u _))
        have hp2 : (p : Int) + 2 ≤ (s.size : Int) := by omega
        have hfo : Hid (∀ w, Calls Tryd.prog 122 #[.string s, .int .i64 ((p : Int) + 2)] w fun e w' => e = .returned (.int .i64 (fourI (s.data.toList.drop (p + 1 + 1)))) ∧ w = w') := fun w => rfour_calls s (by omega) (p + 2) (by omega) w
        unfold fourI at hfo
        cases hf : fourP (s.data.toList.drop (p + 1 + 1)) with
        | none =>
          rw [hf] at hfo hR
          replace hR : Hid (R = (4, [], 0)) := hR
          have hfo' : Hid (∀ w, Calls Tryd.prog 122 #[.string s, .int .i64 ((p : Int) + 2)] w fun e w' => e = .returned (.int .i64 (-1)) ∧ w = w') := hfo
          clear hfo hf
          go_wp2_with fail
          refine (hfo'.out _).mono ?_
          rintro e w1 ⟨rfl, rfl⟩
          go_wp2_with fail
          go_returns
          exact part_err hR.out (by decide) (by decide) hbr
        | some n =>
          rw [hf] at hfo hR
          simp only at hR
          have hfl := four_len hf
          have hn16 := four_lt hf
          rw [List.length_drop, hll.out] at hfl
          have hp6 : p + 6 ≤ s.size := by omega
          clear hf hfl
          obtain ⟨N, hN⟩ : ∃ N : Int, N = (n : Int) := ⟨_, rfl⟩
          have hfo' : Hid (∀ w, Calls Tryd.prog 122 #[.string s, .int .i64 ((p : Int) + 2)] w fun e w' => e = .returned (.int .i64 N) ∧ w = w') := by rw [hN]; exact hfo
          clear hfo
          have j0 : 0 ≤ N := by omega
          have j1 : N < 65536 := by omega
          have honeN := hid (fun w => one_calls N (by omega) (by omega) w)
          rcases Classical.em (¬ (55296 ≤ n ∧ n < 57344)) with hsur | hsur
          · replace hR : Hid _ := hid (hR.out.trans (if_neg hsur))
            have hgood : Hid (Lib.validRune N = true) := by show _ = _; unfold Lib.validRune; rw [decide_eq_true_eq]; omega
            by_cases h5 : n < 55296
            all_goals
              first | have i0 : N < 55296 := by omega | obtain ⟨i0, i1⟩ : 55296 ≤ N ∧ 57344 ≤ N := by omega
              replace hN := hid hN
              clear hsur h5
              go_wp2_with fail
              refine (hfo'.out _).mono ?_
              rintro e w1 ⟨rfl, rfl⟩
              go_wp2_with fail
              refine (honeN.out _).mono ?_
              rintro e w1 ⟨x1, rfl, hx1, _⟩
              rw [hgood.out]
              have hm1 := hid (hx1 hgood.out)
              clear hx1
              go_wp2_with fail
              go_returns
              exact part_good hR.out (by go_num) (by rw [← hN.out]; exact hm1.out.byt.base hbr)
          · have hsur : 55296 ≤ n ∧ n < 57344 := by omega
            replace hR : Hid _ := hid (hR.out.trans (if_pos hsur))
            obtain ⟨hn0, hn1⟩ := hsur
            have hbad : Hid (Lib.validRune N = false) := by show _ = _; unfold Lib.validRune; rw [decide_eq_false_iff_not]; omega
            by_cases hlow : 56320 ≤ n
            · replace hR : Hid (R = (11, [], 0)) := hid (hR.out.trans (if_neg (fun h => by omega)))
              have i0 : 55296 ≤ N := by omega
              have i1 : 56320 ≤ N := by omega
              replace hN := hid hN
              go_wp2_with fail
              refine (hfo'.out _).mono ?_
              rintro e w1 ⟨rfl, rfl⟩
              go_wp2_with fail
              refine (honeN.out _).mono ?_
              rintro e w1 ⟨x1, rfl, _, hx0⟩
              rw [hbad.out]
              obtain ⟨rfl, rfl⟩ := hx0 hbad.out
              go_wp2_with fail
              go_returns
              exact part_err hR.out (by decide) (by decide) hbr
            have i0 : 55296 ≤ N := by omega
            have i1 : N ≤ 56319 := by omega
            rw [List.drop_drop, List.drop_drop] at hR
            by_cases hp8 : s.size ≤ p + 7
            · replace hR : Hid (R = (11, [], 0)) := hid (hR.out.trans (if_neg (fun h => by
                have := congrArg List.length h.2
                rw [List.length_take, List.length_drop, hll.out] at this
                simp at this
                omega)))
              have k0 : (s.size : Int) ≤ (p : Int) + 7 := by omega
              replace hN := hid hN
              go_wp2_with fail
              refine (hfo'.out _).mono ?_
              rintro e w1 ⟨rfl, rfl⟩
              go_wp2_with fail
              refine (honeN.out _).mono ?_
              rintro e w1 ⟨x1, rfl, _, hx0⟩
              rw [hbad.out]
              obtain ⟨rfl, rfl⟩ := hx0 hbad.out
              go_wp2_with fail
              go_returns
              exact part_err hR.out (by decide) (by decide) hbr
            have k0 : (p : Int) + 7 < (s.size : Int) := by omega
            have k1 : (p : Int) + 6 < (s.size : Int) := by omega
            have k2 : (0 : Int) ≤ (p : Int) + 6 := by omega
            have k3 : (0 : Int) ≤ (p : Int) + 7 := by omega
            obtain ⟨y6, hy6, hyc6⟩ := bt_get (s := s) (p := p + 6) (by omega)
            obtain ⟨y7, hy7, hyc7⟩ := bt_get (s := s) (p := p + 7) (by omega)
            have hb6 := bt_at s (p + 6) (by omega)
            have hb7 := bt_at s (p + 7) (by omega)
            have hb86 := bt_lt s (p + 6)
            have hb87 := bt_lt s (p + 7)
            have htk : Hid ((s.data.toList.drop (p + 1 + 1 + 4)).take 2 = [y6, y7]) := by show _ = _; rw [show p + 1 + 1 + 4 = p + 6 by omega, hy6, show p + 6 + 1 = p + 7 by omega, hy7]; rfl
            generalize hbt6 : bt s (p + 6) = d6 at *
            generalize hbt7 : bt s (p + 7) = d7 at *
            replace hbt6 := hid hbt6
            replace hbt7 := hid hbt7
            replace hy6 := hid hy6
            replace hy7 := hid hy7
            rw [htk.out] at hR
            rcases Classical.em (¬ (d6 = 92)) with c6 | c6
            · have e6 : ((d6 : Int) == 92) = false := by simpa using (by omega : ¬ (d6 : Int) = 92)
              replace hR : Hid (R = (11, [], 0)) := hid (hR.out.trans (if_neg (fun h => by
                have h2 := h.2
                injection h2 with h3 _
                exact c6 (by rw [← hyc6, h3]; rfl))))
              replace hN := hid hN
              clear c6 hyc6 hyc7
              go_wp2_with fail
              refine (hfo'.out _).mono ?_
              rintro e w1 ⟨rfl, rfl⟩
              go_wp2_with fail
              refine (honeN.out _).mono ?_
              rintro e w1 ⟨x1, rfl, _, hx0⟩
              rw [hbad.out]
              obtain ⟨rfl, rfl⟩ := hx0 hbad.out
              go_wp2_with fail
              go_returns
              exact part_err hR.out (by decide) (by decide) hbr
            obtain rfl : d6 = 92 := by omega
            rcases Classical.em (¬ (d7 = 117)) with c7 | c7
            · have e7 : ((d7 : Int) == 117) = false := by simpa using (by omega : ¬ (d7 : Int) = 117)
              replace hR : Hid (R = (11, [], 0)) := hid (hR.out.trans (if_neg (fun h => by
                have h2 := h.2
                injection h2 with _ h3
                injection h3 with h3 _
                exact c7 (by rw [← hyc7, h3]; rfl))))
              replace hN := hid hN
              clear c7 hyc6 hyc7
              go_wp2_with fail
              refine (hfo'.out _).mono ?_
              rintro e w1 ⟨rfl, rfl⟩
              go_wp2_with fail
              refine (honeN.out _).mono ?_
              rintro e w1 ⟨x1, rfl, _, hx0⟩
              rw [hbad.out]
              obtain ⟨rfl, rfl⟩ := hx0 hbad.out
              go_wp2_with fail
              go_returns
              exact part_err hR.out (by decide) (by decide) hbr
            obtain rfl : d7 = 117 := by omega
            replace hR := hid (hR.out.trans (if_pos ⟨by omega, by rw [u8_of hyc6 (by omega), u8_of hyc7 (by omega)]; rfl⟩))
            rw [show p + 1 + 1 + 6 = p + 8 by omega] at hR
            clear hyc6 hyc7 hy6 hy7 htk
            have hf2 : Hid (∀ w, Calls Tryd.prog 122 #[.string s, .int .i64 ((p : Int) + 8)] w fun e w' => e = .returned (.int .i64 (fourI (s.data.toList.drop (p + 8)))) ∧ w = w') := fun w => rfour_calls s (by omega) (p + 8) (by omega) w
            unfold fourI at hf2
            cases hf : fourP (s.data.toList.drop (p + 8)) with
            | none =>
              rw [hf] at hf2 hR
              replace hR : Hid (R = (11, [], 0)) := hR
              have hf2' : Hid (∀ w, Calls Tryd.prog 122 #[.string s, .int .i64 ((p : Int) + 8)] w fun e w' => e = .returned (.int .i64 (-1)) ∧ w = w') := hf2
              clear hf2 hf
              replace hN := hid hN
              go_wp2_with fail
              refine (hfo'.out _).mono ?_
              rintro e w1 ⟨rfl, rfl⟩
              go_wp2_with fail
              refine (hf2'.out _).mono ?_
              rintro e w1 ⟨rfl, rfl⟩
              go_wp2_with fail
              refine (honeN.out _).mono ?_
              rintro e w1 ⟨x1, rfl, _, hx0⟩
              rw [hbad.out]
              obtain ⟨rfl, rfl⟩ := hx0 hbad.out
              go_wp2_with fail
              go_returns
              exact part_err hR.out (by decide) (by decide) hbr
            | some m =>
              rw [hf] at hf2 hR
              simp only at hR
              have hfl := four_len hf
              have hm16 := four_lt hf
              rw [List.length_drop, hll.out] at hfl
              clear hf hfl
              obtain ⟨M, hM⟩ : ∃ M : Int, M = (m : Int) := ⟨_, rfl⟩
              have hf2' : Hid (∀ w, Calls Tryd.prog 122 #[.string s, .int .i64 ((p : Int) + 8)] w fun e w' => e = .returned (.int .i64 M) ∧ w = w') := by rw [hM]; exact hf2
              clear hf2
              have l0 : 0 ≤ M := by omega
              have l1 : M < 65536 := by omega
              by_cases hrng : 56320 ≤ m ∧ m < 57344
              · replace hR := hid (hR.out.trans (if_pos hrng))
                have l2 : 56320 ≤ M := by omega
                have l3 : M ≤ 57343 := by omega
                obtain ⟨Z, hZ⟩ : ∃ Z : Int, Z = 65536 + (N - 55296) * 1024 + M - 56320 := ⟨_, rfl⟩
                have hZn : Hid (Z = ((65536 + (n - 55296) * 1024 + (m - 56320) : Nat) : Int)) := by show _ = _; omega
                have hgood : Hid (Lib.validRune Z = true) := by show _ = _; unfold Lib.validRune; rw [decide_eq_true_eq]; omega
                have honeZ : Hid (∀ w, Calls Tryd.prog 76 #[.int .i64 (65536 + (N - 55296) * 1024 + M - 56320)] w (OneTold Z w)) := by rw [← hZ]; exact fun w => one_calls Z (by omega) (by omega) w
                replace hZ := hid hZ
                replace hN := hid hN
                replace hM := hid hM
                go_wp2_with fail
                refine (hfo'.out _).mono ?_
                rintro e w1 ⟨rfl, rfl⟩
                go_wp2_with fail
                refine (hf2'.out _).mono ?_
                rintro e w1 ⟨rfl, rfl⟩
                go_wp2_with fail
                refine (honeZ.out _).mono ?_
                rintro e w1 ⟨x1, rfl, hx1, _⟩
                rw [hgood.out]
                have hm1 := hid (hx1 hgood.out)
                clear hx1
                go_wp2_with fail
                go_returns
                exact part_good hR.out (by go_num) (by rw [← hZn.out]; exact hm1.out.byt.base hbr)
              · replace hR : Hid (R = (11, [], 0)) := hid (hR.out.trans (if_neg hrng))
                by_cases h5 : m < 56320
                all_goals
                  first | have l2 : M < 56320 := by omega | obtain ⟨l2, l3⟩ : 56320 ≤ M ∧ 57343 < M := by omega
                  replace hN := hid hN
                  replace hM := hid hM
                  clear hrng h5
                  go_wp2_with fail
                  refine (hfo'.out _).mono ?_
                  rintro e w1 ⟨rfl, rfl⟩
                  go_wp2_with fail
                  refine (hf2'.out _).mono ?_
                  rintro e w1 ⟨rfl, rfl⟩
                  go_wp2_with fail
                  refine (honeN.out _).mono ?_
                  rintro e w1 ⟨x1, rfl, _, hx0⟩
                  rw [hbad.out]
                  obtain ⟨rfl, rfl⟩ := hx0 hbad.out
                  go_wp2_with fail
                  go_returns
                  exact part_err hR.out (by decide) (by decide) hbr
end Go.Proofs.YtdjegpmjhfbamaaDoor
