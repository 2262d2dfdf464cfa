/-
  Walk: the law KeyKnown.
-/
import Derived.Test.YtihcegakghmdfaaDoorMgKey13
import Derived.Test.YtihcegakghmdfaaDoorMgRep1
namespace Go.Proofs.YtihcegakghmdfaaDoor
open Go.RowKit Go.Proofs

def b1010 : List UInt8 := [10, 10]
def b1255 : List UInt8 := [1, 255]
def b255 : List UInt8 := [255]
theorem splitK_1 : splitP b1010 1 = none :=
  splitP_no (xs := [nullV]) (c := 1) rfl (fun h => absurd h.2 (by decide +kernel))
theorem splitK_2 : splitP b1010 2 = some [nullV, nullV] :=
  splitP_yes (c := 2) rfl (badI_zero.2 (fun x hx => by
    have : x = nullV := by simpa using hx
    rw [this]; exact good_null)) (by decide +kernel)
theorem keyK_0 : nullV.key = [10] := by decide +kernel
theorem keyK_1 : (boolV 1).key = [20, 1] := by decide +kernel
theorem keyK_2 : (intV (-1)).key = [30, 127, 255, 255, 255, 255, 255, 255, 255] := by decide +kernel
theorem keyK_3 : (listV [intV 1]).key = [50, 1, 30, 128, 0, 0, 0, 0, 0, 0, 1, 0] := by decide +kernel
theorem keyK_4 : (docV bA nullV).key = [60, 1, 97, 0, 0, 10, 0] := by decide +kernel
theorem goodK_1 : (boolV 1).good = 0 := by decide +kernel
theorem goodK_2 : (intV (-1)).good = 0 := by decide +kernel
theorem goodK_3 : (listV [intV 1]).good = 0 := by decide +kernel
theorem goodK_4 : (docV bA nullV).good = 0 := by decide +kernel

set_option maxRecDepth 100000 in
set_option maxHeartbeats 600000 in
theorem known5_calls (w : World) (hT : Tabs w) : Calls Tryd.prog 7 #[] w fun e w' => e = .returned (.bool true) ∧ Below w.heap.size w w' := by
  have hT := hid (fun w' hb => Tabs.stays w w' hT hb)
  have haw := hid awake5_calls
  have hbk := hid (fun (w' : World) (bv : Value) (h : BytesAt w' (Now w') b1010 bv) (hT : Tabs w') => back_tells h hT (by decide))
  rw [splitK_1] at hbk
  have hsp := hid (fun (w' : World) (bv : Value) (h : BytesAt w' (Now w') b1010 bv) (hT : Tabs w') => split_calls h hT (by decide) 2 (by unfold I64; omega))
  rw [if_neg (by omega : ¬ (2 : Int) < 0), show (2 : Int).toNat = 2 from rfl, splitK_2] at hsp
  unfold SplitC at hsp
  have ha1 := hid (fun (w' : World) (bv : Value) (h : BytesAt w' (Now w') b1255 bv) => after_calls h (by decide))
  have ha2 := hid (fun (w' : World) (bv : Value) (h : BytesAt w' (Now w') b255 bv) => after_calls h (by decide))
  rw [show afterP b1255 = some [2] from rfl] at ha1
  rw [show afterP b255 = none from rfl] at ha2
  have hN := hid null_calls
  have hI := hid int_calls
  have hL := hid list_calls
  have hD := hid (fun w => doc_calls bA nullV (fun _ => False) w _ (by decide) (rd_null w _) (fun b h => h.elim))
  have is0 := hid (fun (w' : World) (cs : List Value) (bv : Value) (hT : Tabs w') (hV : Rd w' (Now w') nullV cs) (hb : BytesAt w' (Now w') [10] bv) => is5_calls nullV (by simp [nullV, PVal.mass, massL, massF]; try decide) good_null hT hV hb)
  rw [keyK_0] at is0
  have is1 := hid (fun (w' : World) (cs : List Value) (bv : Value) (hT : Tabs w') (hV : Rd w' (Now w') (boolV 1) cs) (hb : BytesAt w' (Now w') [20, 1] bv) => is5_calls (boolV 1) (by simp [boolV, PVal.mass, massL, massF]) goodK_1 hT hV hb)
  rw [keyK_1] at is1
  have is2 := hid (fun (w' : World) (cs : List Value) (bv : Value) (hT : Tabs w') (hV : Rd w' (Now w') (intV (-1)) cs) (hb : BytesAt w' (Now w') [30, 127, 255, 255, 255, 255, 255, 255, 255] bv) => is5_calls (intV (-1)) (by simp [intV, PVal.mass, massL, massF]) goodK_2 hT hV hb)
  rw [keyK_2] at is2
  have is3 := hid (fun (w' : World) (cs : List Value) (bv : Value) (hT : Tabs w') (hV : Rd w' (Now w') (listV [intV 1]) cs) (hb : BytesAt w' (Now w') [50, 1, 30, 128, 0, 0, 0, 0, 0, 0, 1, 0] bv) => is5_calls (listV [intV 1]) (by simp [listV, intV, PVal.mass, massL, massF]) goodK_3 hT hV hb)
  rw [keyK_3] at is3
  have is4 := hid (fun (w' : World) (cs : List Value) (bv : Value) (hT : Tabs w') (hV : Rd w' (Now w') (docV bA nullV) cs) (hb : BytesAt w' (Now w') [60, 1, 97, 0, 0, 10, 0] bv) => is5_calls (docV bA nullV) (by simp [docV, nullV, PVal.mass, massL, massF]; decide) goodK_4 hT hV hb)
  rw [keyK_4] at is4
  simp only [beq_self_eq_true] at is0 is1 is2 is3 is4
  go_enter Tryd.func7, Tryd.ntmps7
  go_wp2_with fail
  refine (hbk.out _ _ (bytes_lit b1010 rfl (by decide) rfl) (hT.out _ (below_new _ _))).mono ?_
  rintro e w2 ⟨cs2, rfl, h2, hr2, _⟩
  replace hr2 : Rd w2 (From _ w2) zeroK cs2 := hr2
  obtain ⟨xa, xc, za, zc, rfl, _⟩ := hr2.inv
  have D := hid ((below_new w (.cells #[.int .u8 10, .int .u8 10] 5)).step h2)
  clear h2 hr2
  go_wp2_with fail
  have n2 := below_new w2 (.cells #[.int .i64 0, .int .i64 0, .string ByteArray.empty, .slice xa 0 xc, .slice za 0 zc] 25)
  replace D := hid (D.out.step (n2.step (below_new _ (.cells #[.int .u8 10, .int .u8 10] 5))))
  refine (hsp.out _ _ (bytes_lit b1010 rfl (by decide) (by simp)) (hT.out _ D.out)).mono ?_
  rintro e w4 ⟨h4, v4, rfl, ho4⟩
  have hl4 : RdL w4 (Now w4) [nullV, nullV] v4 := by
    rcases ho4.row thawRel with ⟨_, h0⟩ | ⟨g, cap, rfl, p1, p2, p3, p4, cs, p5, p6⟩
    · cases h0
    · exact ⟨some ⟨g, 0, none⟩, cap, cs, rfl, p1, ⟨by unfold maxLen at p2; omega, by decide⟩, .inr ⟨g, 0, rfl, p4, p5⟩, fun i x hx => (p6 i x hx).1.keep (fun b hb => hb.2.1) (fun _ _ => rfl)⟩
  obtain ⟨va, vc, _, hv4, _⟩ := id hl4
  subst hv4
  replace hl4 := hid hl4
  replace D := hid (D.out.step h4)
  clear h4 ho4 n2
  go_wp2_with fail
  have n4 := below_new w4 (.cells #[.int .u8 1, .int .u8 255] 5)
  refine (ha1.out _ _ (bytes_lit b1255 rfl (by decide) rfl)).mono ?_
  rintro e w5 ⟨v5, rfl, hx5⟩
  have hb5 : BytesAt w5 (Now w5) [2] v5 := hx5.bytes.keep (fun b hb => hb.2) (fun _ _ => rfl)
  obtain ⟨xa5, xc5, rfl, _⟩ := id hb5
  have s5 := n4.step hx5.1
  replace hl4 := hid (hl4.out.later s5)
  replace D := hid (D.out.step s5)
  replace hb5 := hid hb5
  clear hx5 n4 s5
  go_wp2_with fail
  have n5 := below_new w5 (.cells #[.int .u8 255] 5)
  refine (ha2.out _ _ (bytes_lit b255 rfl (by decide) rfl)).mono ?_
  rintro e w6 ⟨v6, rfl, hx6⟩
  have hb6 : BytesAt w6 (Now w6) [] v6 := hx6.bytes.keep (fun b hb => hb.2) (fun _ _ => rfl)
  obtain ⟨xa6, xc6, rfl, _⟩ := id hb6
  have s6 := n5.step hx6.1
  replace hl4 := hid (hl4.out.later s6)
  replace hb5 := hid (hb5.out.later s6)
  replace D := hid (D.out.step s6)
  clear hx6 n5 s6 hb6
  go_wp2_with fail
  refine (haw.out _ (hT.out _ D.out)).mono ?_
  rintro e w7 ⟨rfl, h7⟩
  replace hl4 := hid (hl4.out.later h7)
  replace hb5 := hid (hb5.out.later h7)
  replace D := hid (D.out.step h7)
  clear h7
  go_wp2_with fail
  refine (hN.out _).mono ?_
  rintro e w8 ⟨rfl, h8⟩
  have n8 := h8.step (below_new w8 (.cells #[.int .u8 10] 5))
  replace hl4 := hid (hl4.out.later n8)
  replace hb5 := hid (hb5.out.later n8)
  replace D := hid (D.out.step n8)
  clear h8 n8
  go_wp2_with fail
  refine (is0.out _ _ _ (hT.out _ D.out) (rd_null _ _) (bytes_lit [10] rfl (by decide) rfl)).mono ?_
  rintro e w9 ⟨rfl, h9⟩
  replace hl4 := hid (hl4.out.later h9)
  replace hb5 := hid (hb5.out.later h9)
  replace D := hid (D.out.step h9)
  clear h9
  go_wp2_with fail
  have n9 := below_new w9 (.cells #[.int .u8 20, .int .u8 1] 5)
  replace hl4 := hid (hl4.out.later n9)
  replace hb5 := hid (hb5.out.later n9)
  replace D := hid (D.out.step n9)
  refine (is1.out _ [.int .i64 2, .int .i64 1, .string ByteArray.empty, .slice none 0 0, .slice none 0 0] _ (hT.out _ D.out) (rd_flat _ _ ⟨by decide, by decide⟩ ⟨by decide, by decide⟩ (by decide)) (bytes_lit [20, 1] rfl (by decide) rfl)).mono ?_
  rintro e wa ⟨rfl, ha⟩
  replace hl4 := hid (hl4.out.later ha)
  replace hb5 := hid (hb5.out.later ha)
  replace D := hid (D.out.step ha)
  clear ha n9
  go_wp2_with fail
  refine (hI.out _ _).mono ?_
  rintro e wb ⟨rfl, hb⟩
  have nb := hb.step (below_new wb (.cells #[.int .u8 30, .int .u8 127, .int .u8 255, .int .u8 255, .int .u8 255, .int .u8 255, .int .u8 255, .int .u8 255, .int .u8 255] 5))
  replace hl4 := hid (hl4.out.later nb)
  replace hb5 := hid (hb5.out.later nb)
  replace D := hid (D.out.step nb)
  clear hb nb
  go_wp2_with fail
  refine (is2.out _ _ _ (hT.out _ D.out) (rd_int _ _ (by unfold I64; omega)) (bytes_lit [30, 127, 255, 255, 255, 255, 255, 255, 255] rfl (by decide) rfl)).mono ?_
  rintro e wc ⟨rfl, hc⟩
  replace hl4 := hid (hl4.out.later hc)
  replace hb5 := hid (hb5.out.later hc)
  replace D := hid (D.out.step hc)
  clear hc
  go_wp2_with fail
  refine (hI.out _ _).mono ?_
  rintro e wd ⟨rfl, hd⟩
  replace hl4 := hid (hl4.out.later hd)
  replace hb5 := hid (hb5.out.later hd)
  replace D := hid (D.out.step hd)
  clear hd
  go_wp2_with fail
  refine (hL.out _ _ _ _).mono ?_
  rintro e we ⟨rfl, he⟩
  have hrl : Rd we (Now we) (listV [intV 1]) [.int .i64 5, .int .i64 0, .string ByteArray.empty, .slice (some ⟨wd.heap.size, 0, none⟩) 1 1, .slice none 0 0] := by
    have h := rdL_one (w := wd) (S := Now wd) (V := intV 1) (rd_int wd (Now wd) (n := 1) (by unfold I64; omega)) he (fun _ h => h)
    refine rd_list (l := [intV 1]) (c := 1) (h.keep (fun b hb => ?_) (fun _ _ => rfl))
    have hsz : wd.heap.size < we.heap.size := Nat.lt_of_lt_of_le (by simp) he.size
    rcases hb with hb | hb
    · exact Nat.lt_trans hb hsz
    · subst hb; exact hsz
  have ne := ((below_new wd (.cells #[.int .i64 3, .int .i64 1, .string ByteArray.empty, .slice none 0 0, .slice none 0 0] 25)).step he).step (below_new we (.cells #[.int .u8 50, .int .u8 1, .int .u8 30, .int .u8 128, .int .u8 0, .int .u8 0, .int .u8 0, .int .u8 0, .int .u8 0, .int .u8 0, .int .u8 1, .int .u8 0] 5))
  replace hl4 := hid (hl4.out.later ne)
  replace hb5 := hid (hb5.out.later ne)
  replace D := hid (D.out.step ne)
  replace hrl := hid (hrl.later (below_new we (.cells #[.int .u8 50, .int .u8 1, .int .u8 30, .int .u8 128, .int .u8 0, .int .u8 0, .int .u8 0, .int .u8 0, .int .u8 0, .int .u8 0, .int .u8 1, .int .u8 0] 5)))
  clear he ne
  go_wp2_with fail
  refine (is3.out _ _ _ (hT.out _ D.out) hrl.out (bytes_lit [50, 1, 30, 128, 0, 0, 0, 0, 0, 0, 1, 0] rfl (by decide) rfl)).mono ?_
  rintro e wf ⟨rfl, hf⟩
  replace hl4 := hid (hl4.out.later hf)
  replace hb5 := hid (hb5.out.later hf)
  replace D := hid (D.out.step hf)
  clear hf hrl
  go_wp2_with fail
  refine (hN.out _).mono ?_
  rintro e wg ⟨rfl, hg⟩
  replace hl4 := hid (hl4.out.later hg)
  replace hb5 := hid (hb5.out.later hg)
  replace D := hid (D.out.step hg)
  clear hg
  go_wp2_with fail
  refine (hD.out _).mono ?_
  rintro e wh ⟨fa, fc, rfl, hrd, hh⟩
  have nh := below_new wh (.cells #[.int .u8 60, .int .u8 1, .int .u8 97, .int .u8 0, .int .u8 0, .int .u8 10, .int .u8 0] 5)
  have hrd2 : Rd wh (Now wh) (docV bA nullV) _ := hrd.keep (fun b hb => by rcases hb with h | h; exact h.elim; exact h.2) (fun _ _ => rfl)
  replace hrd2 := hid (hrd2.later nh)
  have nhh := hh.step nh
  replace hl4 := hid (hl4.out.later nhh)
  replace hb5 := hid (hb5.out.later nhh)
  replace D := hid (D.out.step nhh)
  clear hh nh nhh hrd
  go_wp2_with fail
  refine (is4.out _ _ _ (hT.out _ D.out) hrd2.out (bytes_lit [60, 1, 97, 0, 0, 10, 0] rfl (by decide) rfl)).mono ?_
  rintro e wi ⟨rfl, hi⟩
  replace hl4 := hid (hl4.out.later hi)
  replace hb5 := hid (hb5.out.later hi)
  replace D := hid (D.out.step hi)
  clear hi hrd2
  have he4 : err4 none = 4 := rfl
  go_wp2_with fail
  refine (hN.out _).mono ?_
  rintro e wj ⟨rfl, hj⟩
  replace hl4 := hid (hl4.out.later hj)
  replace hb5 := hid (hb5.out.later hj)
  replace D := hid (D.out.step hj)
  clear hj
  go_wp2_with fail
  refine (hN.out _).mono ?_
  rintro e wk ⟨rfl, hk⟩
  replace hl4 := hid (hl4.out.later hk)
  replace hb5 := hid (hb5.out.later hk)
  replace D := hid (D.out.step hk)
  clear hk
  go_wp2_with fail
  have nk := below_new wk (.cells #[.int .i64 1, .int .i64 0, .string ByteArray.empty, .slice none 0 0, .slice none 0 0, .int .i64 1, .int .i64 0, .string ByteArray.empty, .slice none 0 0, .slice none 0 0] 25)
  have hsec := rdL_block (Vs := [nullV, nullV]) (w := wk.alloc (.cells #[.int .i64 1, .int .i64 0, .string ByteArray.empty, .slice none 0 0, .slice none 0 0, .int .i64 1, .int .i64 0, .string ByteArray.empty, .slice none 0 0, .slice none 0 0] 25)) (css := [[.int .i64 1, .int .i64 0, .string ByteArray.empty, .slice none 0 0, .slice none 0 0], [.int .i64 1, .int .i64 0, .string ByteArray.empty, .slice none 0 0, .slice none 0 0]]) (n := 2) (g := wk.heap.size) (t := 25) rfl rfl rfl (two_rd (rd_null _ _) (rd_null _ _)) (blk_new rfl) (by simp)
  have hll := hid (rlist_calls [nullV, nullV] (hl4.out.later nk) hsec)
  replace hb5 := hid (hb5.out.later nk)
  replace D := hid (D.out.step nk)
  clear hsec nk
  refine hll.out.mono ?_
  rintro e wl ⟨rfl, hl⟩
  have hcv : (convert 26 9 (.slice xa5 1 xc5)).run Tryd.prog wl = .ok (.string ⟨#[2]⟩) wl := conv_at (l := [2]) (hb5.out.later hl)
  replace D := hid (D.out.step hl)
  clear hl hl4 hb5
  go_wp2_with fail
  go_ret
  exact ⟨rfl, D.out⟩
end Go.Proofs.YtihcegakghmdfaaDoor
