/-
  Walks: utf's Cut; the law UtfBack.
-/
import Derived.Test.YtdjegpmjhfbamaaDoorUtf7
import Derived.Test.YtdjegpmjhfbamaaDoorOrd0
namespace Go.Proofs.YtdjegpmjhfbamaaDoor
open Go.RowKit Go.Proofs

theorem ba_eq (s : ByteArray) : (⟨s.data.toList.toArray⟩ : ByteArray) = s := by cases s; simp
set_option maxRecDepth 10000 in
theorem ch_valid {v : Nat} (h : Ch v) : Lib.validRune (v : Int) = true := by
  unfold Ch at h
  unfold Lib.validRune
  rw [decide_eq_true_eq]
  omega
def nums (rs : List Nat) : List Int := rs.map fun (v : Nat) => (v : Int)
theorem textI_nums (rs : List Nat) : textI (nums rs) = textL rs := by
  unfold textI nums textL
  rw [List.flatMap_map]
theorem okR_nums {rs : List Nat} (h : ∀ v ∈ rs, Ch v) : okR (nums rs) = true := by
  refine List.all_eq_true.2 (fun x hx => ?_)
  obtain ⟨v, hv, rfl⟩ := List.mem_map.1 hx
  exact ch_valid (h v hv)
theorem nums_len (rs : List Nat) : (nums rs).length = rs.length := by simp [nums]
/-- A part of a row of characters, read. -/
theorem runesAt_row {w : World} {B e g n cap i k : Nat} {rs : List Nat} {a : Option Addr} (h : w.ownsRow B e 1 (.slice (some ⟨g, 0, none⟩) n cap) rs.length (rcells rs)) (hc : ∀ v ∈ rs, Ch v) (hk : i + k ≤ rs.length) {c : Nat} (hkc : k ≤ c) (hcm : c ≤ 9223372036854775807) (ha : k = 0 ∨ a = some ⟨g, i, none⟩) :
    RunesAt w (nums ((rs.drop i).take k)) (.slice a k c) := by
  have hl : (nums ((rs.drop i).take k)).length = k := by rw [nums_len, List.length_take, List.length_drop]; omega
  refine ⟨a, c, by rw [hl], by rw [hl]; exact hkc, hcm, fun x hx => ?_, ?_⟩
  · obtain ⟨v, hv, rfl⟩ := List.mem_map.1 hx
    have := hc v (List.mem_of_mem_drop (List.mem_of_mem_take hv))
    unfold Ch at this
    omega
  · rcases ha with h0 | ha
    · left; subst h0; rfl
    · by_cases h0 : k = 0
      · left; subst h0; rfl
      right
      have hlt : g < w.heap.size := (h.lt g rfl).2
      refine ⟨g, i, ha, hlt, fun j x hx => ?_⟩
      have hj : j < k := by rw [← hl]; exact (List.getElem?_eq_some_iff.1 hx).1
      have h2 := h.cells (g := g) rfl (i + j) (.int .i32 x) (by
        unfold nums at hx
        rw [List.getElem?_map, List.getElem?_take, if_pos hj, List.getElem?_drop] at hx
        unfold rcells
        rw [List.getElem?_map]
        obtain ⟨v, hv, rfl⟩ := Option.map_eq_some_iff.1 hx
        rw [hv]; rfl)
      have h3 : (⟨g, 0, none⟩ : Addr).add (i + j) = ⟨g, i + j, none⟩ := by
        unfold Addr.add
        split
        · rename_i h0; rw [h0]
        · simp
      rw [h3] at h2
      exact h2
theorem row_cap {w : World} {B e g n cap k : Nat} {xs : List Value} (h : w.ownsRow B e 1 (.slice (some ⟨g, 0, none⟩) n cap) k xs) : n ≤ cap ∧ cap ≤ 9223372036854775807 := by
  rcases h.2 with ⟨h1, _⟩ | ⟨g', cap', cur, h1, _, _, h2, h3, _⟩
  · cases h1
  · injection h1 with h4 h5 h6
    subst h5 h6
    exact ⟨h2, by unfold maxLen at h3; omega⟩

/-- A part of a text, by characters; or the error. -/
def cutP (s : ByteArray) (f t : Int) : ByteArray × Int :=
  match runesD s.data.toList with
  | none => (⟨#[]⟩, 11)
  | some rs => if f < 0 ∨ t < f ∨ (rs.length : Int) < t then (⟨#[]⟩, 1) else (⟨(textL ((rs.drop f.toNat).take (t.toNat - f.toNat))).toArray⟩, 0)

set_option maxRecDepth 100000 in
set_option maxHeartbeats 4000000 in
theorem cut_calls (s : ByteArray) (hs : s.size ≤ 34359738368) (f t : Int) (hf : -9223372036854775808 ≤ f ∧ f ≤ 9223372036854775807) (ht : -9223372036854775808 ≤ t ∧ t ≤ 9223372036854775807) (w : World) (hT : Tabs w) :
    Calls Tryd.prog 31 #[.string s, .int .i64 f, .int .i64 t] w fun e w' => e = .returned (.tuple #[.string (cutP s f t).1, .int .i64 (cutP s f t).2]) ∧ Below w.heap.size w w' := by
  have hr := hid (runes_calls s (by omega) w hT)
  have hll : Hid (s.data.toList.length = s.size) := by show _ = _; simp
  have hval : Hid ((runesD s.data.toList).isSome = utf s) := runesD_valid _ _ rfl
  obtain ⟨R, hR⟩ : ∃ R, R = cutP s f t := ⟨_, rfl⟩
  rw [← hR]
  unfold cutP at hR
  replace hR := hid hR
  cases hrs : runesD s.data.toList with
  | none =>
    have hRR : Hid (R = (⟨#[]⟩, 11)) := by show _ = _; rw [hR.out, hrs]
    have hu : Hid (utf s = false) := by show _ = _; rw [← hval.out, hrs]; rfl
    replace hrs := hid hrs
    go_enter Tryd.func31, Tryd.ntmps31
    go_wp2_with fail
    refine hr.out.mono ?_
    rintro e w1 ⟨a, n, cap, rfl, hb, _, hno⟩
    obtain ⟨rfl, rfl, rfl⟩ := hno hrs.out
    rw [hu.out]
    clear hno
    go_wp2_with fail
    go_ret2
    exact ⟨by rw [hRR.out]; rfl, hb⟩
  | some rs =>
    have hu : Hid (utf s = true) := by show _ = _; rw [← hval.out, hrs]; rfl
    have hch := hid (runes_text hrs).2
    have hrl := runes_len hrs
    rw [hll.out] at hrl
    replace hR : Hid _ := hid (hR.out.trans (by rw [hrs]))
    replace hrs := hid hrs
    by_cases hbad : f < 0 ∨ t < f ∨ (rs.length : Int) < t
    · have hRR : Hid (R = (⟨#[]⟩, 1)) := hR.out.trans (if_pos hbad)
      by_cases c0 : f < 0
      · clear hbad
        go_enter Tryd.func31, Tryd.ntmps31
        go_wp2_with fail
        refine hr.out.mono ?_
        rintro e w1 ⟨a, n, cap, rfl, hb, _, _⟩
        rw [hu.out]
        go_wp2_with fail
        go_ret2
        exact ⟨by rw [hRR.out]; rfl, hb⟩
      by_cases c1 : t < f
      · clear hbad
        go_enter Tryd.func31, Tryd.ntmps31
        go_wp2_with fail
        refine hr.out.mono ?_
        rintro e w1 ⟨a, n, cap, rfl, hb, _, _⟩
        rw [hu.out]
        go_wp2_with fail
        go_ret2
        exact ⟨by rw [hRR.out]; rfl, hb⟩
      · have c2 : (rs.length : Int) < t := by omega
        clear hbad
        go_enter Tryd.func31, Tryd.ntmps31
        go_wp2_with fail
        refine hr.out.mono ?_
        rintro e w1 ⟨a, n, cap, rfl, hb, hyes, _⟩
        obtain ⟨rfl, _⟩ := hyes rs hrs.out
        rw [hu.out]
        clear hyes
        go_wp2_with fail
        go_ret2
        exact ⟨by rw [hRR.out]; rfl, hb⟩
    · have hRR := hid (hR.out.trans (if_neg hbad))
      obtain ⟨i, rfl⟩ : ∃ i : Nat, f = i := Int.eq_ofNat_of_zero_le (by omega)
      obtain ⟨j, rfl⟩ : ∃ j : Nat, t = j := Int.eq_ofNat_of_zero_le (by omega)
      have hij : i ≤ j := by omega
      have hjl : j ≤ rs.length := by omega
      have hij' : (i : Int) ≤ (j : Int) := by omega
      have hjl' : (j : Int) ≤ (rs.length : Int) := by omega
      clear hbad
      go_enter Tryd.func31, Tryd.ntmps31
      go_wp2_with fail
      refine hr.out.mono ?_
      rintro e w1 ⟨a, n, cap, rfl, hb, hyes, _⟩
      obtain ⟨rfl, hown, g, rfl⟩ := hyes rs hrs.out
      rw [hu.out]
      have hcap := row_cap hown
      have hjc : (j : Int) ≤ (cap : Int) := by omega
      clear hyes
      have htx : Hid (∀ a, (j - i = 0 ∨ a = some ⟨g, i, none⟩) → Calls Tryd.prog 26 #[.slice a (j - i) (cap - i)] w1 fun e w' => e = .returned (.tuple #[.string R.1, .int .i64 R.2]) ∧ Below w1.heap.size w1 w') := fun a ha => by
        have h1 := utext_calls _ _ w1 (runesAt_row hown hch.out (i := i) (k := j - i) (a := a) (c := cap - i) (by omega) (by omega) (by omega) ha) (by rw [nums_len, List.length_take, List.length_drop]; omega)
        have h2 := okR_nums (rs := (rs.drop i).take (j - i)) (fun v hv => hch.out v (List.mem_of_mem_drop (List.mem_of_mem_take hv)))
        rw [h2, if_pos rfl, if_pos rfl, textI_nums] at h1
        rw [hRR.out]
        exact h1
      by_cases hci : cap = i
      · subst hci
        obtain rfl : j = cap := by omega
        have htx0 := htx.out (some ⟨g, 0, none⟩) (.inl (by omega))
        rw [Nat.sub_self] at htx0
        replace htx0 := hid htx0
        clear htx
        go_wp2_with fail
        refine htx0.out.mono ?_
        rintro e w2 ⟨rfl, hb2⟩
        go_wp2_with fail
        go_ret2
        exact ⟨rfl, hb.step hb2⟩
      · have hci' : i < cap := by omega
        have hpos : ¬ cap - i = 0 := by omega
        clear hci
        go_wp2_with fail
        refine (htx.out (some ⟨g, i, none⟩) (.inr rfl)).mono ?_
        rintro e w2 ⟨rfl, hb2⟩
        go_wp2_with fail
        go_ret2
        exact ⟨rfl, hb.step hb2⟩

theorem quote_len (s : ByteArray) : (quoteP s.data.toList).length ≤ 6 * s.size + 2 := by
  have := q1s_len s.data.toList
  have hl : s.data.toList.length = s.size := by simp
  unfold quoteP
  simp only [List.length_append, List.length_cons, List.length_nil] at this ⊢
  omega
theorem arr_toList (l : List UInt8) : (⟨l.toArray⟩ : ByteArray).data.toList = l := by simp
theorem arr_size (l : List UInt8) : (⟨l.toArray⟩ : ByteArray).size = l.length := by simp [ByteArray.size]
theorem arr_inj {l l' : List UInt8} (h : (⟨l.toArray⟩ : ByteArray) = ⟨l'.toArray⟩) : l = l' := by
  have := congrArg (fun b : ByteArray => b.data.toList) h
  simpa using this

set_option maxRecDepth 100000 in
set_option maxHeartbeats 8000000 in
theorem uback_calls (s t : ByteArray) (hs : s.size ≤ 34359738368) (ht : t.size ≤ 34359738368) (w : World) (hT : Tabs w) :
    Calls Tryd.prog 5 #[.string s, .string t] w fun e w' => e = .returned (.bool true) ∧ Below w.heap.size w w' := by
  have haw := hid (uawake_calls w hT)
  have hT := hid (fun w' hb => Tabs.stays w w' hT hb)
  have hq := hid (fun w hT => quote_calls s (by omega) w hT)
  have hp := hid (fun w hT => quote_calls t (by omega) w hT)
  have hr := hid (fun w hT => runes_calls s (by omega) w hT)
  have hv := hid (fun w hT => valid_calls s w (by omega) hT)
  have hval : Hid ((runesD s.data.toList).isSome = utf s) := runesD_valid _ _ rfl
  have hll : Hid (s.data.toList.length = s.size) := by show _ = _; simp
  have hql := quote_len s
  cases hrs : runesD s.data.toList with
  | none =>
    have hu : utf s = false := by rw [← hval.out, hrs]; rfl
    rw [hu] at hq hv
    rw [if_neg (by simp), if_neg (by simp)] at hq
    replace hrs := hid hrs
    replace hu := hid hu
    go_enter Tryd.func5, Tryd.ntmps5
    go_wp2_with fail
    refine haw.out.mono ?_
    rintro e w1 ⟨rfl, h1⟩
    go_wp2_with fail
    refine (hq.out _ (hT.out _ h1)).mono ?_
    rintro e w2 ⟨rfl, h2⟩
    replace h2 := h1.step h2
    go_wp2_with fail
    refine (hr.out _ (hT.out _ h2)).mono ?_
    rintro e w3 ⟨a, n, cap, rfl, h3, _, hno⟩
    obtain ⟨rfl, rfl, rfl⟩ := hno hrs.out
    rw [hu.out]
    replace h3 := h2.step h3
    clear hno
    go_wp2_with fail
    refine (hv.out _ (hT.out _ h3)).mono ?_
    rintro e w4 ⟨rfl, h4⟩
    go_wp2_with fail
    go_ret
    exact ⟨rfl, h3.step h4⟩
  | some rs =>
    have hu : utf s = true := by rw [← hval.out, hrs]; rfl
    have hch := hid (runes_text hrs).2
    have htx := hid (runes_text hrs).1
    have hrl := runes_len hrs
    rw [hll.out] at hrl
    rw [hu] at hq
    rw [if_pos rfl, if_pos rfl] at hq
    have huq : Hid (∀ w, Tabs w → Calls Tryd.prog 18 #[.string ⟨(quoteP s.data.toList).toArray⟩] w fun e w' => e = .returned (.tuple #[.string s, .int .i64 0]) ∧ Below w.heap.size w w') := fun w hT => by
      have h := unquote_calls ⟨(quoteP s.data.toList).toArray⟩ (by rw [arr_size]; omega) w hT
      unfold UqQ at h
      rw [arr_toList, unq_quote hrs] at h
      simp only [ba_eq] at h
      exact h
    have htext : Hid (∀ (w' : World) (v : Value), RunesAt w' (nums rs) v → Calls Tryd.prog 26 #[v] w' fun e w'' => e = .returned (.tuple #[.string s, .int .i64 0]) ∧ Below w'.heap.size w' w'') := fun w' v hv => by
      have h := utext_calls _ v w' hv (by rw [nums_len]; omega)
      rw [okR_nums hch.out, if_pos rfl, if_pos rfl, textI_nums, htx.out, ba_eq] at h
      exact h
    have hinj : Hid (utf t = true → s ≠ t → (⟨(quoteP t.data.toList).toArray⟩ : ByteArray) ≠ ⟨(quoteP s.data.toList).toArray⟩) := fun h1 h2 h3 => by
      have := quote_inj (show Lib.validD t.data.toList = true from h1) (show Lib.validD s.data.toList = true from hu) (arr_inj h3)
      apply h2
      rw [← ba_eq s, ← ba_eq t, this]
    replace hrs := hid hrs
    replace hu := hid hu
    generalize hQ : (⟨(quoteP s.data.toList).toArray⟩ : ByteArray) = Q at *
    replace hQ := hid hQ
    clear hql
    cases hut : utf t with
    | false =>
      rw [hut] at hp
      rw [if_neg (by simp), if_neg (by simp)] at hp
      clear hut
      go_enter Tryd.func5, Tryd.ntmps5
      go_wp2_with fail
      refine haw.out.mono ?_
      rintro e w1 ⟨rfl, h1⟩
      go_wp2_with fail
      refine (hq.out _ (hT.out _ h1)).mono ?_
      rintro e w2 ⟨rfl, h2⟩
      replace h2 := h1.step h2
      go_wp2_with fail
      refine (hr.out _ (hT.out _ h2)).mono ?_
      rintro e w3 ⟨a, n, cap, rfl, h3, hyes, _⟩
      obtain ⟨rfl, hown, g, rfl⟩ := hyes rs hrs.out
      have hra := runesAt_row hown hch.out (i := 0) (k := rs.length) (a := some ⟨g, 0, none⟩) (c := cap) (by omega) (row_cap hown).1 (row_cap hown).2 (.inr rfl)
      rw [List.drop_zero, List.take_length] at hra
      replace hra := hid hra
      rw [hu.out]
      replace h3 := h2.step h3
      clear hyes hown
      go_wp2_with fail
      refine (huq.out _ (hT.out _ h3)).mono ?_
      rintro e w4 ⟨rfl, h4⟩
      replace hra := hid (hra.out.later h4)
      replace h4 := h3.step h4
      go_wp2_with fail
      refine (htext.out _ _ hra.out).mono ?_
      rintro e w5 ⟨rfl, h5⟩
      replace h5 := h4.step h5
      go_wp2_with fail
      refine (hp.out _ (hT.out _ h5)).mono ?_
      rintro e w6 ⟨rfl, h6⟩
      go_wp2_with fail
      go_ret
      exact ⟨by simp, h5.step h6⟩
    | true =>
      rw [hut] at hp
      rw [if_pos rfl, if_pos rfl] at hp
      by_cases hst : s = t
      · subst hst
        rw [hQ.out] at hp
        clear hut
        go_enter Tryd.func5, Tryd.ntmps5
        go_wp2_with fail
        refine haw.out.mono ?_
        rintro e w1 ⟨rfl, h1⟩
        go_wp2_with fail
        refine (hq.out _ (hT.out _ h1)).mono ?_
        rintro e w2 ⟨rfl, h2⟩
        replace h2 := h1.step h2
        go_wp2_with fail
        refine (hr.out _ (hT.out _ h2)).mono ?_
        rintro e w3 ⟨a, n, cap, rfl, h3, hyes, _⟩
        obtain ⟨rfl, hown, g, rfl⟩ := hyes rs hrs.out
        have hra := runesAt_row hown hch.out (i := 0) (k := rs.length) (a := some ⟨g, 0, none⟩) (c := cap) (by omega) (row_cap hown).1 (row_cap hown).2 (.inr rfl)
        rw [List.drop_zero, List.take_length] at hra
        replace hra := hid hra
        rw [hu.out]
        replace h3 := h2.step h3
        clear hyes hown
        go_wp2_with fail
        refine (huq.out _ (hT.out _ h3)).mono ?_
        rintro e w4 ⟨rfl, h4⟩
        replace hra := hid (hra.out.later h4)
        replace h4 := h3.step h4
        go_wp2_with fail
        refine (htext.out _ _ hra.out).mono ?_
        rintro e w5 ⟨rfl, h5⟩
        replace h5 := h4.step h5
        go_wp2_with fail
        refine (hp.out _ (hT.out _ h5)).mono ?_
        rintro e w6 ⟨rfl, h6⟩
        go_wp2_with fail
        go_ret
        exact ⟨by simp, h5.step h6⟩
      · have hne := str_ne (hinj.out hut hst)
        have hne2 := str_ne hst
        generalize hP : (⟨(quoteP t.data.toList).toArray⟩ : ByteArray) = P at *
        replace hP := hid hP
        clear hut hst
        go_enter Tryd.func5, Tryd.ntmps5
        go_wp2_with fail
        refine haw.out.mono ?_
        rintro e w1 ⟨rfl, h1⟩
        go_wp2_with fail
        refine (hq.out _ (hT.out _ h1)).mono ?_
        rintro e w2 ⟨rfl, h2⟩
        replace h2 := h1.step h2
        go_wp2_with fail
        refine (hr.out _ (hT.out _ h2)).mono ?_
        rintro e w3 ⟨a, n, cap, rfl, h3, hyes, _⟩
        obtain ⟨rfl, hown, g, rfl⟩ := hyes rs hrs.out
        have hra := runesAt_row hown hch.out (i := 0) (k := rs.length) (a := some ⟨g, 0, none⟩) (c := cap) (by omega) (row_cap hown).1 (row_cap hown).2 (.inr rfl)
        rw [List.drop_zero, List.take_length] at hra
        replace hra := hid hra
        rw [hu.out]
        replace h3 := h2.step h3
        clear hyes hown
        go_wp2_with fail
        refine (huq.out _ (hT.out _ h3)).mono ?_
        rintro e w4 ⟨rfl, h4⟩
        replace hra := hid (hra.out.later h4)
        replace h4 := h3.step h4
        go_wp2_with fail
        refine (htext.out _ _ hra.out).mono ?_
        rintro e w5 ⟨rfl, h5⟩
        replace h5 := h4.step h5
        go_wp2_with fail
        refine (hp.out _ (hT.out _ h5)).mono ?_
        rintro e w6 ⟨rfl, h6⟩
        go_wp2_with fail
        go_ret
        exact ⟨by simp, h5.step h6⟩
end Go.Proofs.YtdjegpmjhfbamaaDoor
