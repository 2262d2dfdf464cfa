/-
  Walk: the law KeyMany.
-/
import Derived.Test.YtihcegakghmdfaaDoorMgKey18
import Derived.Test.YtihcegakghmdfaaDoorMgRep1
import Derived.Test.YtihcegakghmdfaaDoorMgKr5f
import Derived.Test.YtihcegakghmdfaaDoorMgLaid
namespace Go.Proofs.YtihcegakghmdfaaDoor
open Go.RowKit Go.Proofs

theorem rdL_slice {w : World} {S : Nat → Prop} {xs : List PVal} {v : Value} (h : RdL w S xs v) : ∃ a c, v = .slice a xs.length c ∧ xs.length ≤ c := by
  obtain ⟨a, c, _, h0, h1, _⟩ := h
  exact ⟨a, c, h0, h1⟩
theorem split_short {l : List UInt8} {n : Nat} (h : l.length < n) : splitP l n = none := by
  cases hs : splitP l n with
  | none => rfl
  | some xs =>
    obtain ⟨c, hq, _⟩ := splitP_is hs
    have := seqK_len _ _ _ _ hq
    omega

set_option maxRecDepth 100000 in
set_option maxHeartbeats 1500000 in
theorem many_calls (xs : List PVal) (hm : massL xs ≤ 1073741824) {w : World} {la : Option Addr} {lc : Nat} {bv : Value} {l : List UInt8} (hT : Tabs w) (hA : RdL w (Now w) xs (.slice la xs.length lc)) (hb : BytesAt w (Now w) l bv) (hl : l.length ≤ 33554432) (n : Int) (hn : I64 n) :
    Calls Tryd.prog 8 #[.slice la xs.length lc, bv, .int .i64 n] w fun e w' => e = .returned (.bool true) ∧ Below w.heap.size w w' := by
  have hT0 := hT
  have hT := hid (fun w' hb => Tabs.stays w w' hT hb)
  have haw := hid awake5_calls
  have hlx : xs.length ≤ 1759218604441 := by
    obtain ⟨_, _, _, hv, _, h, _⟩ := hA
    exact h.2
  have hA0 := hid hA
  have hb0 := hid hb
  have hva := hid (fun la c' w h => vast_calls xs la c' w h hlx)
  have hj := hid (fun (w' : World) (h : Below w.heap.size w w') => join_calls xs (fun x hx => by have := mass_mem hx; omega) (by have := keysP_le xs; omega) (hT.out w' h) (hA0.out.later h))
  have hrj := hid (fun (w' : World) (h : Below w.heap.size w w') => rjoin5_calls xs hm (hA0.out.later h))
  have hsp := hid (fun (w' : World) (h : Below w.heap.size w w') => split_calls (hb0.out.later h) (hT.out w' h) (by omega) n hn)
  have haf := hid (fun (w' : World) (h : Below w.heap.size w w') => after_calls (hb0.out.later h) (by omega))
  have hra := hid (fun (w' : World) (h : Below w.heap.size w w') => rafter5_calls (hb0.out.later h) (by omega))
  have hrs := hid (fun (w' : World) (h : Below w.heap.size w w') (m : Nat) (hm : m ≤ 17179869184) => rsplit5_calls (hb0.out.later h) hl m hm)
  obtain ⟨R, hR⟩ : ∃ R, R = splitP l n.toNat := ⟨_, rfl⟩
  have hRe := hid hR
  have hR0 := hid (fun (h : (l.length : Int) < n) => hR.trans (split_short (by omega)))
  have hRs : ∀ m : Nat, n = m → splitR m l = R := fun m h => by rw [hR, h]; exact (split_same l m (by omega)).symm
  replace hRs := hid hRs
  obtain ⟨J, hJ⟩ : ∃ J, J = (if badI xs = 0 then keysP xs else []) := ⟨_, rfl⟩
  obtain ⟨B, hB⟩ : ∃ B, B = badI xs := ⟨_, rfl⟩
  obtain ⟨A, hA9⟩ : ∃ A, A = (afterP l).getD [] := ⟨_, rfl⟩
  obtain ⟨S, hS⟩ : ∃ S, S = (afterP l).isSome := ⟨_, rfl⟩
  unfold Joined at hj
  rw [← hJ, ← hB] at hj hrj
  rw [← hA9, ← hS] at haf hra
  rw [← hR] at hsp
  obtain ⟨Q, hQ⟩ : ∃ Q, Q = (if n < 0 then none else R) := ⟨_, rfl⟩
  obtain ⟨z, hz⟩ : ∃ z : Int, z = (if n < 0 then 1 else 4) := ⟨_, rfl⟩
  rw [← hQ, ← hz] at hsp
  replace hQ := hid hQ
  replace hz := hid hz
  clear hJ hB hA9 hS hA hR hm hlx
  obtain ⟨ba, bc, rfl, _⟩ := hb
  generalize vast xs = V at *
  go_enter Tryd.func8, Tryd.ntmps8
  go_wp2_with fail
  refine (hva.out _ _ _ hA0.out).mono ?_
  rintro e w1 ⟨rfl, h1⟩
  have D1 := hid h1
  clear h1
  cases V with
  | true =>
    go_wp2_with fail
    go_ret
    exact ⟨rfl, D1.out⟩
  | false =>
  go_wp2_with fail
  refine (hj.out _ D1.out).mono ?_
  rintro e w2 ⟨v2, rfl, ho2⟩
  have D2 := hid (D1.out.step ho2.1)
  have x2 := hid (ho2.bytes.keep (fun b hb => hb.2) (fun _ _ => rfl) : BytesAt w2 (Now w2) J v2)
  clear ho2
  go_wp2_with fail
  refine (hsp.out _ D2.out).mono ?_
  rintro e w3 ⟨h3, hR3⟩
  have D3 := hid (D2.out.step h3)
  have E3 := hid h3
  clear h3
  obtain ⟨Q', hQn⟩ : ∃ Q', Q = Q' := ⟨_, rfl⟩
  rw [hQn] at hR3
  cases Q' with
  | none =>
    simp only at hR3
    subst hR3
    obtain ⟨a2, c2, rfl, _⟩ := id x2.out
    go_wp2_with fail
    refine (haf.out _ D3.out).mono ?_
    rintro e w4 ⟨v4, rfl, ho4⟩
    have D4 := hid (D3.out.step ho4.1)
    have x4 := hid (ho4.bytes.keep (fun b hb => hb.2) (fun _ _ => rfl) : BytesAt w4 (Now w4) A v4)
    have E4 := hid ho4.1
    clear ho4
    obtain ⟨a4, c4, rfl, _⟩ := id x4.out
    go_wp2_with fail
    refine (hrj.out _ D4.out).mono ?_
    rintro e w5 ⟨v5, rfl, h5, x5⟩
    have D5 := hid (D4.out.step h5)
    replace h5 := hid h5
    replace x5 := hid x5
    obtain ⟨a5, c5, rfl, _⟩ := id x5.out
    go_wp2_with fail
    refine (hra.out _ D5.out).mono ?_
    rintro e w6 ⟨v6, rfl, ho6⟩
    have D6 := hid (D5.out.step ho6.1)
    have E6 := hid ho6.1
    have x6 := hid (ho6.bytes.keep (fun b hb => hb.2) (fun _ _ => rfl) : BytesAt w6 (Now w6) A v6)
    clear ho6
    obtain ⟨a6, c6, rfl, _⟩ := id x6.out
    go_wp2_with fail
    refine (haw.out _ (hT.out _ D6.out)).mono ?_
    rintro e w7 ⟨rfl, h7⟩
    have D7 := hid (D6.out.step h7)
    have E36 := hid ((E4.out.step h5.out).step E6.out)
    have E37 := hid (E36.out.step h7)
    have cv2 := conv_at (x2.out.later (E3.out.step E37.out))
    have cv4 := conv_at (x4.out.later ((h5.out.step E6.out).step h7))
    have cv5 := conv_at (x5.out.later (E6.out.step h7))
    have cv6 := conv_at (x6.out.later h7)
    clear h7 x2 x4 x5 x6 h5 E6 E4 E36
    by_cases hneg : n < 0
    · obtain rfl : z = 1 := by rw [hz.out, if_pos hneg]
      go_wp2_with fail
      go_ret
      exact ⟨rfl, D7.out⟩
    obtain rfl : z = 4 := by rw [hz.out, if_neg hneg]
    by_cases hbig : (l.length : Int) < n
    · go_wp2_with fail
      go_ret
      exact ⟨rfl, D7.out⟩
    obtain ⟨m, rfl⟩ : ∃ m : Nat, n = m := ⟨n.toNat, by omega⟩
    have hrm := hrs.out _ D7.out m (by omega)
    rw [hRs.out m rfl, ← (show Q = R from by rw [hQ.out, if_neg hneg])] at hrm
    rw [hQn] at hrm
    replace hrm := hid hrm
    go_wp2_with fail
    refine hrm.out.mono ?_
    rintro e w8 ⟨h8, rfl⟩
    have D8 := hid (D7.out.step h8)
    clear cv2 cv4 cv5 cv6
    go_wp2_with fail
    go_ret
    exact ⟨rfl, D8.out⟩
  | some ys =>
    obtain ⟨v3, rfl, ho3⟩ := hR3
    have hyl : ys.length ≤ 1759218604441 := by
      have h : R = some ys := by
        have h0 := hQ.out.symm.trans hQn
        by_cases hneg : n < 0
        · rw [if_pos hneg] at h0; cases h0
        · rw [if_neg hneg] at h0; exact h0
      obtain ⟨c, hq, _⟩ := splitP_is (hRe.out.symm.trans h)
      have := seqK_len _ _ _ _ hq
      omega
    have r3 := hid (ho3.readT hyl)
    obtain ⟨a3, c3, rfl, _⟩ := ho3.form
    clear ho3
    obtain ⟨a2, c2, rfl, _⟩ := id x2.out
    go_wp2_with fail
    refine (haf.out _ D3.out).mono ?_
    rintro e w4 ⟨v4, rfl, ho4⟩
    have D4 := hid (D3.out.step ho4.1)
    have x4 := hid (ho4.bytes.keep (fun b hb => hb.2) (fun _ _ => rfl) : BytesAt w4 (Now w4) A v4)
    have E4 := hid ho4.1
    clear ho4
    obtain ⟨a4, c4, rfl, _⟩ := id x4.out
    go_wp2_with fail
    refine (hrj.out _ D4.out).mono ?_
    rintro e w5 ⟨v5, rfl, h5, x5⟩
    have D5 := hid (D4.out.step h5)
    replace h5 := hid h5
    replace x5 := hid x5
    obtain ⟨a5, c5, rfl, _⟩ := id x5.out
    go_wp2_with fail
    refine (hra.out _ D5.out).mono ?_
    rintro e w6 ⟨v6, rfl, ho6⟩
    have D6 := hid (D5.out.step ho6.1)
    have E6 := hid ho6.1
    have x6 := hid (ho6.bytes.keep (fun b hb => hb.2) (fun _ _ => rfl) : BytesAt w6 (Now w6) A v6)
    clear ho6
    obtain ⟨a6, c6, rfl, _⟩ := id x6.out
    go_wp2_with fail
    refine (haw.out _ (hT.out _ D6.out)).mono ?_
    rintro e w7 ⟨rfl, h7⟩
    have D7 := hid (D6.out.step h7)
    have E36 := hid ((E4.out.step h5.out).step E6.out)
    have E37 := hid (E36.out.step h7)
    have cv2 := conv_at (x2.out.later (E3.out.step E37.out))
    have cv4 := conv_at (x4.out.later ((h5.out.step E6.out).step h7))
    have cv5 := conv_at (x5.out.later (E6.out.step h7))
    have cv6 := conv_at (x6.out.later h7)
    clear h7 x2 x4 x5 x6 h5 E6 E4 E36
    have hneg : ¬ n < 0 := fun h => by rw [hQ.out, if_pos h] at hQn; cases hQn
    have hbig : ¬ (l.length : Int) < n := fun h => by rw [hQ.out, if_neg hneg, hR0.out h] at hQn; cases hQn
    obtain ⟨m, rfl⟩ : ∃ m : Nat, n = m := ⟨n.toNat, by omega⟩
    have hrm := hrs.out _ D7.out m (by omega)
    rw [hRs.out m rfl, ← (show Q = R from by rw [hQ.out, if_neg hneg])] at hrm
    rw [hQn] at hrm
    replace hrm := hid hrm
    go_wp2_with fail
    refine hrm.out.mono ?_
    rintro e w8 ⟨h8, v8, rfl, r8⟩
    have D8 := hid (D7.out.step h8)
    have r3' := r3.out.later (E37.out.step h8)
    obtain ⟨a8, c8, rfl, _⟩ := rdL_slice r8
    have hli := hid (rlist_calls ys r3' r8)
    clear cv2 cv4 cv5 cv6 h8 r8 r3' r3
    go_wp2_with fail
    refine hli.out.mono ?_
    rintro e w9 ⟨rfl, h9⟩
    go_wp2_with fail
    go_ret
    exact ⟨rfl, D8.out.step h9⟩
theorem many_card (xs : List PVal) (hm : massL xs ≤ 1073741824) {w : World} {la : Option Addr} {lc : Nat} {bv : Value} {rs : List Int} {n : Int} (hT : Tabs w) (hA : RdL w (Now w) xs (.slice la xs.length lc)) (hb : NumsAt .u8 w rs bv) (hl : rs.length ≤ 33554432) (hn : (Lit.int .i64 n).wf = true) :
    Calls Tryd.prog 8 #[.slice la xs.length lc, bv, .int .i64 n] w fun e w' => e = .returned (.bool true) ∧ Below w.heap.size w w' := by
  obtain ⟨l, h1, h2⟩ := bytes_of_nums hb
  simp only [Lit.wf, Bool.and_eq_true, decide_eq_true_eq] at hn
  exact many_calls xs hm hT hA h1 (by omega) n hn
end Go.Proofs.YtihcegakghmdfaaDoor
