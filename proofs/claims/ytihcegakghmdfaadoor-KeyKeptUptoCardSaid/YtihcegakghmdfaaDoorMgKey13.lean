/-
  Walks: the statements' own helpers of chapter 5: is, awake, compare, begins.
  Walks: the statements' own helpers of chapter 5: compare, begins.
-/
import Derived.Test.YtihcegakghmdfaaDoorMgKey10
import Derived.Test.YtihcegakghmdfaaDoorMgVal19
import Derived.Test.YtihcegakghmdfaaDoorMgVal21
import Derived.Test.YtihcegakghmdfaaDoorMgVal18
import Derived.Test.YtihcegakghmdfaaDoorMgRef1
import Derived.BigQuiet
namespace Go.Proofs.YtihcegakghmdfaaDoor
open Go.RowKit Go.Proofs

set_option maxRecDepth 100000 in
theorem is5_calls (V : PVal) (hm : V.mass ≤ 1000000000000) (hg : V.good = 0) {w : World} {cs : List Value} {bv : Value} {l : List UInt8} (hT : Tabs w) (hV : Rd w (Now w) V cs) (hb : BytesAt w (Now w) l bv) :
    Calls Tryd.prog 39 #[.agg cs.toArray, bv] w fun e w' => e = .returned (.bool (V.key == l)) ∧ Below w.heap.size w w' := by
  have ho := hid (fun w cs hT h => of_calls V hm w cs hT h)
  unfold Oft at ho
  rw [hg, if_pos rfl] at ho
  have hT := hid (fun w' hb => Tabs.stays w w' hT hb)
  have hV0 := hid hV
  have hb0 := hid hb
  generalize V.key = K at *
  obtain ⟨k, n, s, vl, fn, fv⟩ := V
  obtain ⟨la, lc, fa, fc, rfl, _⟩ := hV.inv
  obtain ⟨a, cap, rfl, _⟩ := hb
  clear hV hg
  have D := hid (below_new w (.cells #[.int .i64 k, .int .i64 n, .string s, .slice la vl.length lc, .slice fa fv.length fc] 25))
  go_enter Tryd.func39, Tryd.ntmps39
  go_wp2_with fail
  refine (ho.out _ _ (hT.out _ D.out) (hV0.out.later D.out)).mono ?_
  rintro e w2 ⟨v, rfl, h2⟩
  have D2 := hid (D.out.step h2.1)
  have hby := h2.bytes
  obtain ⟨va, vc, rfl, _⟩ := id hby
  have h1 := conv_at hby
  have h3 := conv_at (hb0.out.later D2.out)
  clear h2 hby
  go_wp2_with fail
  go_ret
  exact ⟨rfl, D2.out⟩

def keyA : List UInt8 := [40, 97, 0, 0]
theorem key_textA : (textV bA).key = keyA := by decide +kernel
theorem fits_textA : (textV bA).fits := by
  unfold textV
  rw [PVal.fits]
  exact ⟨⟨by decide, by decide⟩, ⟨by decide, by decide⟩, by unfold Lim; decide, by simp, rfl, by unfold Lim; simp, by unfold Lim; simp, by simp [fitsL], by simp [fitsL]⟩
theorem split_keyA : splitP keyA 1 = some [textV bA] := by
  have h := seqK_ok [textV bA] [] (fun x hx => by rw [List.mem_singleton.1 hx]; exact ⟨good_textA, fits_textA⟩)
  rw [keysP_one, List.append_nil, key_textA] at h
  exact splitP_yes h (by rw [badI_one]; exact good_textA) (by rw [keysP_one, key_textA])
theorem mass_textA : (textV bA).mass ≤ 1000000000000 := by simp [textV, PVal.mass, massL, massF, bA, ByteArray.size]
theorem bytes_lit {w : World} {cs : Array Value} {t : TypeId} (l : List UInt8) (hc : cs = (bcells l).toArray) (hl : l.length ≤ 9223372036854775807) {g : Nat} (hg : g = w.heap.size) : BytesAt (w.alloc (.cells cs t)) (Now (w.alloc (.cells cs t))) l (.slice (some ⟨g, 0, none⟩) l.length l.length) := by
  subst hg
  refine ⟨_, _, rfl, Nat.le_refl _, hl, .inr ⟨w.heap.size, 0, rfl, by show _ < _; simp, fun j c hj => ?_⟩⟩
  have := src_new (w := w) l t hc rfl j (.int .u8 c.toNat) (by simp [bcells, hj])
  rwa [addr_at] at this

set_option maxRecDepth 100000 in
set_option maxHeartbeats 2000000 in
theorem awake5_calls (w : World) (hT : Tabs w) : Calls Tryd.prog 22 #[] w fun e w' => e = .returned (.bool true) ∧ Below w.heap.size w w' := by
  have ht := hid (fun w => text_calls bA w)
  have hT := hid (fun w' hb => Tabs.stays w w' hT hb)
  have hbk := hid (fun (w' : World) (bv : Value) (h : BytesAt w' (Now w') keyA bv) (hT : Tabs w') => back_tells h hT (by decide))
  rw [split_keyA] at hbk
  have his := hid (fun (w' : World) (cs : List Value) (bv : Value) (hT : Tabs w') (hV : Rd w' (Now w') (textV bA) cs) (hb : BytesAt w' (Now w') keyA bv) => is5_calls (textV bA) mass_textA good_textA hT hV hb)
  rw [key_textA, show (keyA == keyA) = true from rfl] at his
  have hs := hid (fun w cs cs' => same_calls (textV bA) (textV bA) true (by simp) w cs cs')
  go_enter Tryd.func22, Tryd.ntmps22
  go_wp2_with fail
  refine (hbk.out _ _ (bytes_lit keyA rfl (by decide) rfl) (hT.out _ (below_new _ _))).mono ?_
  rintro e w2 ⟨cs2, rfl, h2, hr2, _⟩
  replace hr2 : Rd w2 (From _ w2) (textV bA) cs2 := hr2
  obtain ⟨xa, xc, za, zc, rfl, _⟩ := hr2.inv
  have D2 := hid ((below_new w (.cells #[.int .u8 40, .int .u8 97, .int .u8 0, .int .u8 0] 5)).step h2)
  replace hr2 : Hid (Rd w2 (Now w2) _ _) := hr2.keep (fun b hb => hb.2) (fun _ _ => rfl)
  clear h2
  go_upto_region 2 with fail
  obtain ⟨w3, hw3⟩ : ∃ w3, w3 = w2.alloc (.cells #[.int .i64 4, .int .i64 0, .string bA, .slice xa 0 xc, .slice za 0 zc] 25) := ⟨_, rfl⟩
  have hn3 : Hid (Below w2.heap.size w2 w3) := by show Below _ _ _; rw [hw3]; exact below_new _ _
  have r3 : Hid (w3.heap[w2.heap.size]? = some (.cells #[.int .i64 4, .int .i64 0, .string bA, .slice xa 0 xc, .slice za 0 zc] 25 (0, 0))) := by show _ = _; rw [hw3]; exact heap_alloc_new _ _
  have D3 := hid (D2.out.step hn3.out)
  rw [← hw3]
  clear hw3
  refine wp_region_T (fun _ => True) 0 (by kernel_rfl) ?_
  refine wpAnyT_two (i := 0) (j := 1) (by kernel_rfl) rfl rfl (fun K hK => ?_) (fun K hK => ?_)
  · go_simp
    refine (ht.out _).mono ?_
    rintro e w4 ⟨rfl, h4⟩
    (refine hK.out _ _ (fun h => absurd h (by decide)) (fun _ => ?_); clear hK K; (try simp only [Act.put, List.setIfInBounds_toArray, List.set_cons_zero, List.set_cons_succ]))
    refine wpAnyT_one (i := 1) (by kernel_rfl) rfl (fun K hK => ?_)
    go_simp
    (refine hK.out _ _ (fun h => absurd h (by decide)) (fun _ => ?_); clear hK K; (try simp only [Act.put, List.setIfInBounds_toArray, List.set_cons_zero, List.set_cons_succ]))
    have hby := hid (bytes_lit (w := w4) (cs := #[.int .u8 40, .int .u8 97, .int .u8 0, .int .u8 0]) (t := 5) keyA rfl (by decide) rfl)
    have hD5 : Hid (Below w3.heap.size w3 _) := ((Below.refl _ _).drew.step h4).step (below_new w4 (.cells #[.int .u8 40, .int .u8 97, .int .u8 0, .int .u8 0] 5))
    clear h4
    refine wpAnyT_one (i := 2) (by kernel_rfl) rfl (fun K hK => ?_)
    go_simp
    refine (his.out _ _ _ (hT.out _ (D3.out.step hD5.out)) (rd_text _ _ bA (by decide)) hby.out).mono ?_
    rintro e w6 ⟨rfl, h6⟩
    replace hD5 := hid (hD5.out.step h6)
    clear hby h6
    (refine hK.out _ _ (fun h => absurd h (by decide)) (fun _ => ?_); clear hK K; (try simp only [Act.put, List.setIfInBounds_toArray, List.set_cons_zero, List.set_cons_succ]))
    refine wpAnyT_one (i := 3) (by kernel_rfl) rfl (fun K hK => ?_)
    go_simp
    (refine hK.out _ _ (fun h => absurd h (by decide)) (fun _ => ?_); clear hK K; (try simp only [Act.put, List.setIfInBounds_toArray, List.set_cons_zero, List.set_cons_succ]))
    refine wpAnyT_one (i := 4) (by kernel_rfl) rfl (fun K hK => ?_)
    go_simp
    (refine hK.out _ _ (fun h => absurd h (by decide)) (fun _ => ?_); clear hK K; (try simp only [Act.put, List.setIfInBounds_toArray, List.set_cons_zero, List.set_cons_succ]))
    refine wpAnyT_one (i := 5) (by kernel_rfl) rfl (fun K hK => ?_)
    go_simp
    (refine hK.out _ _ (fun h => absurd h (by decide)) (fun _ => ?_); clear hK K; (try simp only [Act.put, List.setIfInBounds_toArray, List.set_cons_zero, List.set_cons_succ]))
    refine wpAnyT_one (i := 6) (by kernel_rfl) rfl (fun K hK => ?_)
    go_simp
    (refine hK.out _ _ (fun h => absurd h (by decide)) (fun _ => ?_); clear hK K; (try simp only [Act.put, List.setIfInBounds_toArray, List.set_cons_zero, List.set_cons_succ]))
    refine wpAnyT_one (i := 7) (by kernel_rfl) rfl (fun K hK => ?_)
    go_simp
    (refine hK.out _ _ (fun h => absurd h (by decide)) (fun _ => ?_); clear hK K; (try simp only [Act.put, List.setIfInBounds_toArray, List.set_cons_zero, List.set_cons_succ]))
    refine wpAnyT_two (i := 8) (j := 9) (by kernel_rfl) rfl rfl (fun K hK => ?_) (fun K hK => ?_)
    · have q3 := (hD5.out.block _ (lt_of_block r3.out)).trans r3.out
      have a0 := box_at (j := 0) q3 rfl
      have a1 := box_at (j := 1) q3 rfl
      have a2 := box_at (j := 2) q3 rfl
      have a3 := box_at (j := 3) q3 rfl
      have a4 := box_at (j := 4) q3 rfl
      go_simp
      (refine hK.out _ _ (fun h => absurd h (by decide)) (fun _ => ?_); clear hK K; (try simp only [Act.put, List.setIfInBounds_toArray, List.set_cons_zero, List.set_cons_succ]))
      refine wpAnyT_one (i := 9) (by kernel_rfl) rfl (fun K hK => ?_)
      go_simp
      refine (ht.out _).mono ?_
      rintro e w7 ⟨rfl, h7⟩
      replace hD5 := hid (hD5.out.step h7)
      (refine hK.out _ _ (fun h => absurd h (by decide)) (fun _ => ?_); clear hK K; (try simp only [Act.put, List.setIfInBounds_toArray, List.set_cons_zero, List.set_cons_succ]))
      refine wpAnyT_one (i := 10) (by kernel_rfl) rfl (fun K hK => ?_)
      go_simp
      refine (hs.out _ _ _ (hr2.out.later (hn3.out.step hD5.out)) (rd_text _ _ bA (by decide))).mono ?_
      rintro e w8 ⟨rfl, h8⟩
      replace hD5 := hid (hD5.out.step h8)
      (refine hK.out _ _ (fun h => absurd h (by decide)) (fun _ => ?_); clear hK K; (try simp only [Act.put, List.setIfInBounds_toArray, List.set_cons_zero, List.set_cons_succ]))
      clear a0 a1 a2 a3 a4 q3
      refine wpAnyT_one (i := 11) (by kernel_rfl) rfl (fun K hK => ?_)
      go_simp
      (refine hK.out _ _ (fun h => absurd h (by decide)) (fun _ => ?_); clear hK K; (try simp only [Act.put, List.setIfInBounds_toArray, List.set_cons_zero, List.set_cons_succ]))
      refine wpAnyT_one (i := 12) (by kernel_rfl) rfl (fun K hK => ?_)
      go_simp
      (refine hK.out _ _ (fun h => absurd h (by decide)) (fun _ => ?_); clear hK K; (try simp only [Act.put, List.setIfInBounds_toArray, List.set_cons_zero, List.set_cons_succ]))
      refine wpAnyT_done (by kernel_rfl) ?_ _
      go_wp2_with fail
      go_ret
      exact ⟨rfl, D3.out.step hD5.out⟩
    · go_simp
      refine (ht.out _).mono ?_
      rintro e w7 ⟨rfl, h7⟩
      replace hD5 := hid (hD5.out.step h7)
      (refine hK.out _ _ (fun h => absurd h (by decide)) (fun _ => ?_); clear hK K; (try simp only [Act.put, List.setIfInBounds_toArray, List.set_cons_zero, List.set_cons_succ]))
      have q3 := (hD5.out.block _ (lt_of_block r3.out)).trans r3.out
      have a0 := box_at (j := 0) q3 rfl
      have a1 := box_at (j := 1) q3 rfl
      have a2 := box_at (j := 2) q3 rfl
      have a3 := box_at (j := 3) q3 rfl
      have a4 := box_at (j := 4) q3 rfl
      refine wpAnyT_one (i := 8) (by kernel_rfl) rfl (fun K hK => ?_)
      go_simp
      (refine hK.out _ _ (fun h => absurd h (by decide)) (fun _ => ?_); clear hK K; (try simp only [Act.put, List.setIfInBounds_toArray, List.set_cons_zero, List.set_cons_succ]))
      refine wpAnyT_one (i := 10) (by kernel_rfl) rfl (fun K hK => ?_)
      go_simp
      refine (hs.out _ _ _ (hr2.out.later (hn3.out.step hD5.out)) (rd_text _ _ bA (by decide))).mono ?_
      rintro e w8 ⟨rfl, h8⟩
      replace hD5 := hid (hD5.out.step h8)
      (refine hK.out _ _ (fun h => absurd h (by decide)) (fun _ => ?_); clear hK K; (try simp only [Act.put, List.setIfInBounds_toArray, List.set_cons_zero, List.set_cons_succ]))
      clear a0 a1 a2 a3 a4 q3
      refine wpAnyT_one (i := 11) (by kernel_rfl) rfl (fun K hK => ?_)
      go_simp
      (refine hK.out _ _ (fun h => absurd h (by decide)) (fun _ => ?_); clear hK K; (try simp only [Act.put, List.setIfInBounds_toArray, List.set_cons_zero, List.set_cons_succ]))
      refine wpAnyT_one (i := 12) (by kernel_rfl) rfl (fun K hK => ?_)
      go_simp
      (refine hK.out _ _ (fun h => absurd h (by decide)) (fun _ => ?_); clear hK K; (try simp only [Act.put, List.setIfInBounds_toArray, List.set_cons_zero, List.set_cons_succ]))
      refine wpAnyT_done (by kernel_rfl) ?_ _
      go_wp2_with fail
      go_ret
      exact ⟨rfl, D3.out.step hD5.out⟩
  · go_simp
    (refine hK.out _ _ (fun h => absurd h (by decide)) (fun _ => ?_); clear hK K; (try simp only [Act.put, List.setIfInBounds_toArray, List.set_cons_zero, List.set_cons_succ]))
    refine wpAnyT_one (i := 0) (by kernel_rfl) rfl (fun K hK => ?_)
    go_simp
    refine (ht.out _).mono ?_
    rintro e w5 ⟨rfl, h5⟩
    (refine hK.out _ _ (fun h => absurd h (by decide)) (fun _ => ?_); clear hK K; (try simp only [Act.put, List.setIfInBounds_toArray, List.set_cons_zero, List.set_cons_succ]))
    have hby := hid ((bytes_lit (w := w3.drew) (cs := #[.int .u8 40, .int .u8 97, .int .u8 0, .int .u8 0]) (t := 5) keyA rfl (by decide) rfl).later h5)
    have hD5 : Hid (Below w3.heap.size w3 w5) := ((Below.refl _ _).drew.step (below_new w3.drew (.cells #[.int .u8 40, .int .u8 97, .int .u8 0, .int .u8 0] 5))).step h5
    clear h5
    refine wpAnyT_one (i := 2) (by kernel_rfl) rfl (fun K hK => ?_)
    go_simp
    refine (his.out _ _ _ (hT.out _ (D3.out.step hD5.out)) (rd_text _ _ bA (by decide)) hby.out).mono ?_
    rintro e w6 ⟨rfl, h6⟩
    replace hD5 := hid (hD5.out.step h6)
    clear hby h6
    (refine hK.out _ _ (fun h => absurd h (by decide)) (fun _ => ?_); clear hK K; (try simp only [Act.put, List.setIfInBounds_toArray, List.set_cons_zero, List.set_cons_succ]))
    refine wpAnyT_one (i := 3) (by kernel_rfl) rfl (fun K hK => ?_)
    go_simp
    (refine hK.out _ _ (fun h => absurd h (by decide)) (fun _ => ?_); clear hK K; (try simp only [Act.put, List.setIfInBounds_toArray, List.set_cons_zero, List.set_cons_succ]))
    refine wpAnyT_one (i := 4) (by kernel_rfl) rfl (fun K hK => ?_)
    go_simp
    (refine hK.out _ _ (fun h => absurd h (by decide)) (fun _ => ?_); clear hK K; (try simp only [Act.put, List.setIfInBounds_toArray, List.set_cons_zero, List.set_cons_succ]))
    refine wpAnyT_one (i := 5) (by kernel_rfl) rfl (fun K hK => ?_)
    go_simp
    (refine hK.out _ _ (fun h => absurd h (by decide)) (fun _ => ?_); clear hK K; (try simp only [Act.put, List.setIfInBounds_toArray, List.set_cons_zero, List.set_cons_succ]))
    refine wpAnyT_one (i := 6) (by kernel_rfl) rfl (fun K hK => ?_)
    go_simp
    (refine hK.out _ _ (fun h => absurd h (by decide)) (fun _ => ?_); clear hK K; (try simp only [Act.put, List.setIfInBounds_toArray, List.set_cons_zero, List.set_cons_succ]))
    refine wpAnyT_one (i := 7) (by kernel_rfl) rfl (fun K hK => ?_)
    go_simp
    (refine hK.out _ _ (fun h => absurd h (by decide)) (fun _ => ?_); clear hK K; (try simp only [Act.put, List.setIfInBounds_toArray, List.set_cons_zero, List.set_cons_succ]))
    refine wpAnyT_two (i := 8) (j := 9) (by kernel_rfl) rfl rfl (fun K hK => ?_) (fun K hK => ?_)
    · have q3 := (hD5.out.block _ (lt_of_block r3.out)).trans r3.out
      have a0 := box_at (j := 0) q3 rfl
      have a1 := box_at (j := 1) q3 rfl
      have a2 := box_at (j := 2) q3 rfl
      have a3 := box_at (j := 3) q3 rfl
      have a4 := box_at (j := 4) q3 rfl
      go_simp
      (refine hK.out _ _ (fun h => absurd h (by decide)) (fun _ => ?_); clear hK K; (try simp only [Act.put, List.setIfInBounds_toArray, List.set_cons_zero, List.set_cons_succ]))
      refine wpAnyT_one (i := 9) (by kernel_rfl) rfl (fun K hK => ?_)
      go_simp
      refine (ht.out _).mono ?_
      rintro e w7 ⟨rfl, h7⟩
      replace hD5 := hid (hD5.out.step h7)
      (refine hK.out _ _ (fun h => absurd h (by decide)) (fun _ => ?_); clear hK K; (try simp only [Act.put, List.setIfInBounds_toArray, List.set_cons_zero, List.set_cons_succ]))
      refine wpAnyT_one (i := 10) (by kernel_rfl) rfl (fun K hK => ?_)
      go_simp
      refine (hs.out _ _ _ (hr2.out.later (hn3.out.step hD5.out)) (rd_text _ _ bA (by decide))).mono ?_
      rintro e w8 ⟨rfl, h8⟩
      replace hD5 := hid (hD5.out.step h8)
      (refine hK.out _ _ (fun h => absurd h (by decide)) (fun _ => ?_); clear hK K; (try simp only [Act.put, List.setIfInBounds_toArray, List.set_cons_zero, List.set_cons_succ]))
      clear a0 a1 a2 a3 a4 q3
      refine wpAnyT_one (i := 11) (by kernel_rfl) rfl (fun K hK => ?_)
      go_simp
      (refine hK.out _ _ (fun h => absurd h (by decide)) (fun _ => ?_); clear hK K; (try simp only [Act.put, List.setIfInBounds_toArray, List.set_cons_zero, List.set_cons_succ]))
      refine wpAnyT_one (i := 12) (by kernel_rfl) rfl (fun K hK => ?_)
      go_simp
      (refine hK.out _ _ (fun h => absurd h (by decide)) (fun _ => ?_); clear hK K; (try simp only [Act.put, List.setIfInBounds_toArray, List.set_cons_zero, List.set_cons_succ]))
      refine wpAnyT_done (by kernel_rfl) ?_ _
      go_wp2_with fail
      go_ret
      exact ⟨rfl, D3.out.step hD5.out⟩
    · go_simp
      refine (ht.out _).mono ?_
      rintro e w7 ⟨rfl, h7⟩
      replace hD5 := hid (hD5.out.step h7)
      (refine hK.out _ _ (fun h => absurd h (by decide)) (fun _ => ?_); clear hK K; (try simp only [Act.put, List.setIfInBounds_toArray, List.set_cons_zero, List.set_cons_succ]))
      have q3 := (hD5.out.block _ (lt_of_block r3.out)).trans r3.out
      have a0 := box_at (j := 0) q3 rfl
      have a1 := box_at (j := 1) q3 rfl
      have a2 := box_at (j := 2) q3 rfl
      have a3 := box_at (j := 3) q3 rfl
      have a4 := box_at (j := 4) q3 rfl
      refine wpAnyT_one (i := 8) (by kernel_rfl) rfl (fun K hK => ?_)
      go_simp
      (refine hK.out _ _ (fun h => absurd h (by decide)) (fun _ => ?_); clear hK K; (try simp only [Act.put, List.setIfInBounds_toArray, List.set_cons_zero, List.set_cons_succ]))
      refine wpAnyT_one (i := 10) (by kernel_rfl) rfl (fun K hK => ?_)
      go_simp
      refine (hs.out _ _ _ (hr2.out.later (hn3.out.step hD5.out)) (rd_text _ _ bA (by decide))).mono ?_
      rintro e w8 ⟨rfl, h8⟩
      replace hD5 := hid (hD5.out.step h8)
      (refine hK.out _ _ (fun h => absurd h (by decide)) (fun _ => ?_); clear hK K; (try simp only [Act.put, List.setIfInBounds_toArray, List.set_cons_zero, List.set_cons_succ]))
      clear a0 a1 a2 a3 a4 q3
      refine wpAnyT_one (i := 11) (by kernel_rfl) rfl (fun K hK => ?_)
      go_simp
      (refine hK.out _ _ (fun h => absurd h (by decide)) (fun _ => ?_); clear hK K; (try simp only [Act.put, List.setIfInBounds_toArray, List.set_cons_zero, List.set_cons_succ]))
      refine wpAnyT_one (i := 12) (by kernel_rfl) rfl (fun K hK => ?_)
      go_simp
      (refine hK.out _ _ (fun h => absurd h (by decide)) (fun _ => ?_); clear hK K; (try simp only [Act.put, List.setIfInBounds_toArray, List.set_cons_zero, List.set_cons_succ]))
      refine wpAnyT_done (by kernel_rfl) ?_ _
      go_wp2_with fail
      go_ret
      exact ⟨rfl, D3.out.step hD5.out⟩
end Go.Proofs.YtihcegakghmdfaaDoor

namespace Go.Proofs.YtihcegakghmdfaaDoor
open Go.RowKit Go.Proofs

set_option maxRecDepth 100000 in
theorem compare5_calls {w : World} {l m : List UInt8} {v u : Value} (h : BytesAt w (Now w) l v) (k : BytesAt w (Now w) m u) :
    Calls Tryd.prog 48 #[v, u] w fun e w' => e = .returned (.int .i64 (cb l m)) ∧ w = w' := by
  obtain ⟨a, ca, rfl, ha, _⟩ := id h
  obtain ⟨b, cb', rfl, hb, _⟩ := id k
  have h1 := conv_at h
  have h2 := conv_at k
  have hs := hid (fun w => rstrings_calls ⟨l.toArray⟩ ⟨m.toArray⟩ w)
  have he : scmp ⟨l.toArray⟩ ⟨m.toArray⟩ = cb l m := rfl
  rw [he] at hs
  clear h k he
  go_enter Tryd.func48, Tryd.ntmps48
  go_wp2_with fail
  refine (hs.out _).mono ?_
  rintro e w1 ⟨rfl, rfl⟩
  go_wp2_with fail
  go_ret
  exact ⟨rfl, rfl⟩

/-- Does a list begin with another one? -/
def starts (l m : List UInt8) : Bool := decide (m.length ≤ l.length) && (l.take m.length == m)
set_option maxRecDepth 100000 in
theorem begins5_calls {w : World} {l m : List UInt8} {v u : Value} (h : BytesAt w (Now w) l v) (k : BytesAt w (Now w) m u) :
    Calls Tryd.prog 49 #[v, u] w fun e w' => e = .returned (.bool (starts l m)) ∧ Below w.heap.size w w' := by
  have h0 := hid h
  have k0 := hid k
  obtain ⟨a, ca, rfl, ha, ha2, _⟩ := h
  obtain ⟨b, cb', rfl, hb, hb2, _⟩ := k
  obtain ⟨R, hR⟩ : ∃ R, starts l m = R := ⟨_, rfl⟩
  rw [hR]
  unfold starts at hR
  by_cases hle : m.length ≤ l.length
  · rw [decide_eq_true hle, Bool.true_and] at hR
    have hcv1 : ∀ p : Later w, (convert 26 9 (.slice a m.length ca)).run Tryd.prog p.x = .ok (.string ⟨(l.take m.length).toArray⟩) p.x := fun p => by
      have h1 := bytes_pre (h0.out.later p.h) hle
      have hl : (l.take m.length).length = m.length := by rw [List.length_take]; omega
      have h2 := h1
      rw [← hl] at h2
      have := conv_at (l := l.take m.length) (by simpa [hl] using h1)
      rwa [hl] at this
    have hcv2 : ∀ p : Later w, (convert 26 9 (.slice b m.length cb')).run Tryd.prog p.x = .ok (.string ⟨m.toArray⟩) p.x := fun p => conv_at (k0.out.later p.h)
    have d1 : decide ((m.length : Int) ≤ (l.length : Int)) = true := decide_eq_true (by omega)
    have i1 : (m.length : Int) ≤ (l.length : Int) := by omega
    have i2 : (m.length : Int) ≤ (ca : Int) := by omega
    go_enter Tryd.func49, Tryd.ntmps49
    go_upto_region 1 with fail
    refine wp_later (by kernel_rfl) (by kernel_rfl) ?_
    repeat (go_big_quiet_step (fail))
    refine wpQuiet_nil ?_
    rintro _ ⟨q, rfl⟩
    clear hcv1 hcv2
    go_wp2_with fail
    go_ret
    exact ⟨rfl, q.h⟩
  · rw [decide_eq_false hle, Bool.false_and] at hR
    subst hR
    have d1 : decide ((m.length : Int) ≤ (l.length : Int)) = false := decide_eq_false (by omega)
    have i1 : ¬ (m.length : Int) ≤ (l.length : Int) := by omega
    go_enter Tryd.func49, Tryd.ntmps49
    go_upto_region 1 with fail
    refine wp_later (by kernel_rfl) (by kernel_rfl) ?_
    repeat (go_big_quiet_step (fail))
    refine wpQuiet_nil ?_
    rintro _ ⟨q, rfl⟩
    go_wp2_with fail
    go_ret
    exact ⟨rfl, q.h⟩
end Go.Proofs.YtihcegakghmdfaaDoor
