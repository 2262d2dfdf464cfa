/-
  Walks: the reference's take whole, Take, Get.
  Walk: the law CodecValues.
-/
import Derived.Test.YtihcegakghmdfaaDoorMgDec11
import Derived.Test.YtihcegakghmdfaaDoorMgDecP
import Derived.Test.YtihcegakghmdfaaDoorMgApp
import Derived.Test.YtihcegakghmdfaaDoorMgVal19
import Derived.Test.YtihcegakghmdfaaDoorMgVal21
import Derived.Test.YtihcegakghmdfaaDoorMgRef6
namespace Go.Proofs.YtihcegakghmdfaaDoor
open Go.RowKit Go.Proofs

theorem rtake_calls : ∀ (m d : Nat), d + m = 8 → ∀ {w : World} {bv : Value} {l : List UInt8}, BytesAt w (Now w) l bv → l.length ≤ 35184372088832 → ∀ p, p ≤ l.length →
    Calls Tryd.prog 75 #[bv, .int .i64 p, .int .i64 d] w (RTk (valR m (l.drop p)) p w)
  | 0, d, hd, w, bv, l, hb, hl, p, hp => rtake_head none d (.inl ⟨rfl, by omega⟩) hb hl p hp (fun _ _ _ => .inr (by omega))
  | m + 1, d, hd, w, bv, l, hb, hl, p, hp => by
    have hfe : ∀ L V n, valR m L = .ok V n → n ≤ L.length := fun L V n h => (val_is m L V n h).2.le
    cases hdr : l.drop p with
    | nil =>
      rw [← hdr]
      exact rtake_head (some (valR m)) d (.inr ⟨by omega, _, rfl⟩) hb hl p hp (fun k r h => by rw [hdr] at h; cases h)
    | cons k r =>
      have hlt : p < l.length := by
        have := congrArg List.length hdr
        rw [List.length_drop] at this
        simp at this; omega
      rw [← hdr]
      by_cases h5 : k.toNat = 5
      · exact rtake_list (valR m) (valR_pos m) d (by omega) hb hl p hlt (fun w' hw p' hp' => rtake_calls m (d + 1) (by omega) (hb.later hw) hl p' hp') hfe (fun k' r' h => by rw [hdr] at h; injection h with h _; subst h; exact h5)
      by_cases h6 : k.toNat = 6
      · exact rtake_doc (valR m) (valR_pos m) d (by omega) hb hl p hlt (fun w' hw p' hp' => rtake_calls m (d + 1) (by omega) (hb.later hw) hl p' hp') hfe (fun k' r' h => by rw [hdr] at h; injection h with h _; subst h; exact h6)
      exact rtake_head (some (valR m)) d (.inr ⟨by omega, _, rfl⟩) hb hl p hp (fun k' r' h => by rw [hdr] at h; injection h with h _; subst h; exact .inl (by omega))

set_option maxRecDepth 100000 in
set_option maxHeartbeats 2000000 in
theorem rtk_calls {w : World} {bv : Value} {l : List UInt8} (hb : BytesAt w (Now w) l bv) (hl : l.length ≤ 35184372088832) (p : Nat) (hp : p ≤ l.length) :
    Calls Tryd.prog 33 #[bv, .int .i64 p] w (RTk (takeR (l.drop p)) p w) := by
  have ht := hid (fun (w' : World) (h : Below w.heap.size w w') => rtake_calls 8 0 rfl (hb.later h) hl p hp)
  obtain ⟨a, cap, rfl, hc1, hc2, _⟩ := hb
  unfold takeR
  cases hR : valR 8 (l.drop p) with
  | bad c =>
    rw [hR] at ht
    have hc := valR_pos _ _ _ hR
    have hc0 : (c != 0) = true := by simp; omega
    have hc1 : ¬ c = 0 := by omega
    replace hR := hid hR
    go_enter Tryd.func33, Tryd.ntmps33
    go_wp2_with fail
    refine (ht.out _ (below_new _ _)).mono ?_
    rintro e w2 ⟨h2, rfl⟩
    unfold none5
    have hb2 := hid ((below_new w _).step h2)
    have r2 := hid ((h2.block w.heap.size (by simp)).trans (heap_alloc_new w _))
    go_upto_region 2 with fail
    obtain ⟨w3, hw3⟩ : ∃ w3, w3 = w2.alloc (.cells #[.int .i64 0, .int .i64 0, .string ByteArray.empty, .slice none 0 0, .slice none 0 0] 25) := ⟨_, rfl⟩
    have hb3 : Hid (Below w2.heap.size w2 w3) := by show Below _ _ _; rw [hw3]; exact below_new _ _
    have r4 : Hid (w3.heap[w2.heap.size]? = some (.cells #[.int .i64 0, .int .i64 0, .string ByteArray.empty, .slice none 0 0, .slice none 0 0] 25 (0, 0))) := by show _ = _; rw [hw3]; exact heap_alloc_new _ _
    have r3 := hid ((hb3.out.block _ (lt_of_block r2.out)).trans r2.out)
    have hlt : Hid (w.heap.size < w2.heap.size) := lt_of_block r2.out
    rw [← hw3]
    clear hw3 r2 h2
    have c00 := box_at (j := 0) r3.out rfl
    have c01 := box_at (j := 1) r3.out rfl
    have c02 := box_at (j := 2) r3.out rfl
    have c03 := box_at (j := 3) r3.out rfl
    have c04 := box_at (j := 4) r3.out rfl
    have f0 := box_free r3.out
    go_wp2_with fail
    have rz := hid (set5_box (u0 := (.int .i64 0)) (u1 := (.int .i64 0)) (u2 := (.string ⟨#[]⟩)) (u3 := (.slice none 0 0)) (u4 := (.slice none 0 0)) r3.out)
    have hbz := hid (set5_below (hb2.out.step hb3.out) (Nat.le_refl _) (.int .i64 0) (.int .i64 0) (.string ⟨#[]⟩) (.slice none 0 0) (.slice none 0 0))
    unfold set5 at rz hbz
    clear c00 c01 c02 c03 c04 f0
    generalize (((((w3.setCell ⟨w.heap.size, 0, none⟩ (.int .i64 0)).setCell ⟨w.heap.size, 1, none⟩ (.int .i64 0)).setCell ⟨w.heap.size, 2, none⟩ (.string ⟨#[]⟩)).setCell ⟨w.heap.size, 3, none⟩ (.slice none 0 0)).setCell ⟨w.heap.size, 4, none⟩ (.slice none 0 0)) = w9 at *
    have z0 := box_at (j := 0) rz.out rfl
    have z1 := box_at (j := 1) rz.out rfl
    have z2 := box_at (j := 2) rz.out rfl
    have z3 := box_at (j := 3) rz.out rfl
    have z4 := box_at (j := 4) rz.out rfl
    refine ⟨rfl, _, by simp [results, Tryd.results33, go_sem, z0, z1, z2, z3, z4]; rfl, hbz.out, rfl⟩
  | ok V n =>
    rw [hR] at ht
    have hnle : p + n ≤ l.length := val_end p hp hR
    obtain ⟨kk, kn, ks, kl, kfn, kfv⟩ := V
    clear hR
    have e1 : IntKind.i64.wrap ((p : Int) + (n : Int) - (p : Int)) = (n : Int) := by rw [IntWalk.i64_in _ (by omega)]; omega
    simp only
    by_cases hbig : 2048 < n
    · rw [if_pos hbig]
      have d1 : 2048 < (n : Int) := by omega
      go_enter Tryd.func33, Tryd.ntmps33
      go_wp2_with fail
      refine (ht.out _ (below_new _ _)).mono ?_
      rintro e w2 ⟨h2, cs2, rfl, hr2⟩
      obtain ⟨ka, kc, kf, kg, rfl, _⟩ := hr2.inv
      clear hr2
      have hb2 := hid ((below_new w _).step h2)
      have r2 := hid ((h2.block w.heap.size (by simp)).trans (heap_alloc_new w _))
      go_upto_region 2 with fail
      obtain ⟨w3, hw3⟩ : ∃ w3, w3 = w2.alloc (.cells #[.int .i64 kk, .int .i64 kn, .string ks, .slice ka kl.length kc, .slice kf kfv.length kg] 25) := ⟨_, rfl⟩
      have hb3 : Hid (Below w2.heap.size w2 w3) := by show Below _ _ _; rw [hw3]; exact below_new _ _
      have r4 : Hid (w3.heap[w2.heap.size]? = some (.cells #[.int .i64 kk, .int .i64 kn, .string ks, .slice ka kl.length kc, .slice kf kfv.length kg] 25 (0, 0))) := by show _ = _; rw [hw3]; exact heap_alloc_new _ _
      have r3 := hid ((hb3.out.block _ (lt_of_block r2.out)).trans r2.out)
      have hlt : Hid (w.heap.size < w2.heap.size) := lt_of_block r2.out
      rw [← hw3]
      clear hw3 r2 h2
      have c00 := box_at (j := 0) r3.out rfl
      have c01 := box_at (j := 1) r3.out rfl
      have c02 := box_at (j := 2) r3.out rfl
      have c03 := box_at (j := 3) r3.out rfl
      have c04 := box_at (j := 4) r3.out rfl
      have f0 := box_free r3.out
      go_wp2_with fail
      have rz := hid (set5_box (u0 := (.int .i64 0)) (u1 := (.int .i64 0)) (u2 := (.string ⟨#[]⟩)) (u3 := (.slice none 0 0)) (u4 := (.slice none 0 0)) r3.out)
      have hbz := hid (set5_below (hb2.out.step hb3.out) (Nat.le_refl _) (.int .i64 0) (.int .i64 0) (.string ⟨#[]⟩) (.slice none 0 0) (.slice none 0 0))
      unfold set5 at rz hbz
      clear c00 c01 c02 c03 c04 f0
      generalize (((((w3.setCell ⟨w.heap.size, 0, none⟩ (.int .i64 0)).setCell ⟨w.heap.size, 1, none⟩ (.int .i64 0)).setCell ⟨w.heap.size, 2, none⟩ (.string ⟨#[]⟩)).setCell ⟨w.heap.size, 3, none⟩ (.slice none 0 0)).setCell ⟨w.heap.size, 4, none⟩ (.slice none 0 0)) = w9 at *
      have z0 := box_at (j := 0) rz.out rfl
      have z1 := box_at (j := 1) rz.out rfl
      have z2 := box_at (j := 2) rz.out rfl
      have z3 := box_at (j := 3) rz.out rfl
      have z4 := box_at (j := 4) rz.out rfl
      refine ⟨rfl, _, by simp [results, Tryd.results33, go_sem, z0, z1, z2, z3, z4]; rfl, hbz.out, rfl⟩
    · rw [if_neg hbig]
      have d1 : ¬ 2048 < (n : Int) := by omega
      go_enter Tryd.func33, Tryd.ntmps33
      go_wp2_with fail
      refine (ht.out _ (below_new _ _)).mono ?_
      rintro e w2 ⟨h2, cs2, rfl, hr2⟩
      obtain ⟨ka, kc, kf, kg, rfl, _⟩ := hr2.inv
      replace hr2 := hid hr2
      have hb2 := hid ((below_new w _).step h2)
      have r2 := hid ((h2.block w.heap.size (by simp)).trans (heap_alloc_new w _))
      go_upto_region 2 with fail
      obtain ⟨w3, hw3⟩ : ∃ w3, w3 = w2.alloc (.cells #[.int .i64 kk, .int .i64 kn, .string ks, .slice ka kl.length kc, .slice kf kfv.length kg] 25) := ⟨_, rfl⟩
      have hb3 : Hid (Below w2.heap.size w2 w3) := by show Below _ _ _; rw [hw3]; exact below_new _ _
      have r4 : Hid (w3.heap[w2.heap.size]? = some (.cells #[.int .i64 kk, .int .i64 kn, .string ks, .slice ka kl.length kc, .slice kf kfv.length kg] 25 (0, 0))) := by show _ = _; rw [hw3]; exact heap_alloc_new _ _
      have r3 := hid ((hb3.out.block _ (lt_of_block r2.out)).trans r2.out)
      have hlt : Hid (w.heap.size < w2.heap.size) := lt_of_block r2.out
      rw [← hw3]
      clear hw3 r2 h2
      have c00 := box_at (j := 0) r3.out rfl
      have c01 := box_at (j := 1) r3.out rfl
      have c02 := box_at (j := 2) r3.out rfl
      have c03 := box_at (j := 3) r3.out rfl
      have c04 := box_at (j := 4) r3.out rfl
      have f0 := box_free r3.out
      have x0 := box_at (j := 0) r4.out rfl
      have x1 := box_at (j := 1) r4.out rfl
      have x2 := box_at (j := 2) r4.out rfl
      have x3 := box_at (j := 3) r4.out rfl
      have x4 := box_at (j := 4) r4.out rfl
      go_wp2_with fail
      clear x0 x1 x2 x3 x4
      have rz := hid (set5_box (u0 := (.int .i64 kk)) (u1 := (.int .i64 kn)) (u2 := (.string ks)) (u3 := (.slice ka kl.length kc)) (u4 := (.slice kf kfv.length kg)) r3.out)
      have hbz := hid (set5_below (hb2.out.step hb3.out) (Nat.le_refl _) (.int .i64 kk) (.int .i64 kn) (.string ks) (.slice ka kl.length kc) (.slice kf kfv.length kg))
      have hr9 : Hid (Rd (set5 w3 w.heap.size (.int .i64 kk) (.int .i64 kn) (.string ks) (.slice ka kl.length kc) (.slice kf kfv.length kg)) (From w.heap.size (set5 w3 w.heap.size (.int .i64 kk) (.int .i64 kn) (.string ks) (.slice ka kl.length kc) (.slice kf kfv.length kg))) (.mk kk kn ks kl kfn kfv) [.int .i64 kk, .int .i64 kn, .string ks, .slice ka kl.length kc, .slice kf kfv.length kg]) :=
        hr2.out.keep (fun b hb => ⟨by have := hb.1; simp at this; omega, by rw [set5_size]; exact Nat.lt_of_lt_of_le hb.2 hb3.out.size⟩) (fun b hb => by
          rw [set5_other _ _ _ _ _ _ _ (by have := hb.1; simp at this; omega)]
          exact hb3.out.block b hb.2)
      unfold set5 at rz hbz hr9
      clear c00 c01 c02 c03 c04 f0
      generalize (((((w3.setCell ⟨w.heap.size, 0, none⟩ (.int .i64 kk)).setCell ⟨w.heap.size, 1, none⟩ (.int .i64 kn)).setCell ⟨w.heap.size, 2, none⟩ (.string ks)).setCell ⟨w.heap.size, 3, none⟩ (.slice ka kl.length kc)).setCell ⟨w.heap.size, 4, none⟩ (.slice kf kfv.length kg)) = w9 at *
      have z0 := box_at (j := 0) rz.out rfl
      have z1 := box_at (j := 1) rz.out rfl
      have z2 := box_at (j := 2) rz.out rfl
      have z3 := box_at (j := 3) rz.out rfl
      have z4 := box_at (j := 4) rz.out rfl
      refine ⟨rfl, _, by simp [results, Tryd.results33, go_sem, z0, z1, z2, z3, z4], hbz.out, _, rfl, hr9.out⟩

set_option maxRecDepth 100000 in
set_option maxHeartbeats 2000000 in
theorem rget_calls {w : World} {bv : Value} {l : List UInt8} (hb : BytesAt w (Now w) l bv) (hl : l.length ≤ 35184372088832) :
    Calls Tryd.prog 29 #[bv] w (GotV (getR l) w) := by
  have ht := hid (fun (w' : World) (h : Below w.heap.size w w') => rtk_calls (hb.later h) hl 0 (Nat.zero_le _))
  rw [List.drop_zero] at ht
  obtain ⟨a, cap, rfl, hc1, hc2, _⟩ := hb
  unfold getR
  cases hR : takeR l with
  | bad c =>
    rw [hR] at ht
    have hc := takeR_pos hR
    have hc0 : (c != 0) = true := by simp; omega
    have hc1 : ¬ c = 0 := by omega
    replace hR := hid hR
    go_enter Tryd.func29, Tryd.ntmps29
    go_wp2_with fail
    refine (ht.out _ (below_new _ _)).mono ?_
    rintro e w2 ⟨h2, rfl⟩
    unfold none5
    have hb2 := hid ((below_new w _).step h2)
    have r2 := hid ((h2.block w.heap.size (by simp)).trans (heap_alloc_new w _))
    go_upto_region 2 with fail
    obtain ⟨w3, hw3⟩ : ∃ w3, w3 = w2.alloc (.cells #[.int .i64 0, .int .i64 0, .string ByteArray.empty, .slice none 0 0, .slice none 0 0] 25) := ⟨_, rfl⟩
    have hb3 : Hid (Below w2.heap.size w2 w3) := by show Below _ _ _; rw [hw3]; exact below_new _ _
    have r4 : Hid (w3.heap[w2.heap.size]? = some (.cells #[.int .i64 0, .int .i64 0, .string ByteArray.empty, .slice none 0 0, .slice none 0 0] 25 (0, 0))) := by show _ = _; rw [hw3]; exact heap_alloc_new _ _
    have r3 := hid ((hb3.out.block _ (lt_of_block r2.out)).trans r2.out)
    have hlt : Hid (w.heap.size < w2.heap.size) := lt_of_block r2.out
    rw [← hw3]
    clear hw3 r2 h2
    have c00 := box_at (j := 0) r3.out rfl
    have c01 := box_at (j := 1) r3.out rfl
    have c02 := box_at (j := 2) r3.out rfl
    have c03 := box_at (j := 3) r3.out rfl
    have c04 := box_at (j := 4) r3.out rfl
    have f0 := box_free r3.out
    go_wp2_with fail
    have rz := hid (set5_box (u0 := (.int .i64 0)) (u1 := (.int .i64 0)) (u2 := (.string ⟨#[]⟩)) (u3 := (.slice none 0 0)) (u4 := (.slice none 0 0)) r3.out)
    have hbz := hid (set5_below (hb2.out.step hb3.out) (Nat.le_refl _) (.int .i64 0) (.int .i64 0) (.string ⟨#[]⟩) (.slice none 0 0) (.slice none 0 0))
    unfold set5 at rz hbz
    clear c00 c01 c02 c03 c04 f0
    generalize (((((w3.setCell ⟨w.heap.size, 0, none⟩ (.int .i64 0)).setCell ⟨w.heap.size, 1, none⟩ (.int .i64 0)).setCell ⟨w.heap.size, 2, none⟩ (.string ⟨#[]⟩)).setCell ⟨w.heap.size, 3, none⟩ (.slice none 0 0)).setCell ⟨w.heap.size, 4, none⟩ (.slice none 0 0)) = w9 at *
    have z0 := box_at (j := 0) rz.out rfl
    have z1 := box_at (j := 1) rz.out rfl
    have z2 := box_at (j := 2) rz.out rfl
    have z3 := box_at (j := 3) rz.out rfl
    have z4 := box_at (j := 4) rz.out rfl
    refine ⟨rfl, _, by simp [results, Tryd.results29, go_sem, z0, z1, z2, z3, z4]; rfl, hbz.out, rfl⟩
  | ok V n =>
    rw [hR] at ht
    have hnle : n ≤ l.length := by
      unfold takeR at hR
      split at hR
      · cases hR
      rename_i hv
      split at hR
      · cases hR
      injection hR with e1 e2
      subst e1 e2
      exact (val_is 8 _ _ _ hv).2.le
    obtain ⟨kk, kn, ks, kl, kfn, kfv⟩ := V
    clear hR
    simp only
    by_cases hlt' : n < l.length
    · rw [if_pos hlt']
      have d1 : ((n : Int) != (l.length : Int)) = true := by simp; omega
      have d2 : ¬ (n : Int) = (l.length : Int) := by omega
      have d3 : ¬ n = l.length := by omega
      go_enter Tryd.func29, Tryd.ntmps29
      go_wp2_with fail
      refine (ht.out _ (below_new _ _)).mono ?_
      rintro e w2 ⟨h2, cs2, rfl, hr2⟩
      obtain ⟨ka, kc, kf, kg, rfl, _⟩ := hr2.inv
      clear hr2
      have hb2 := hid ((below_new w _).step h2)
      have r2 := hid ((h2.block w.heap.size (by simp)).trans (heap_alloc_new w _))
      go_upto_region 2 with fail
      obtain ⟨w3, hw3⟩ : ∃ w3, w3 = w2.alloc (.cells #[.int .i64 kk, .int .i64 kn, .string ks, .slice ka kl.length kc, .slice kf kfv.length kg] 25) := ⟨_, rfl⟩
      have hb3 : Hid (Below w2.heap.size w2 w3) := by show Below _ _ _; rw [hw3]; exact below_new _ _
      have r4 : Hid (w3.heap[w2.heap.size]? = some (.cells #[.int .i64 kk, .int .i64 kn, .string ks, .slice ka kl.length kc, .slice kf kfv.length kg] 25 (0, 0))) := by show _ = _; rw [hw3]; exact heap_alloc_new _ _
      have r3 := hid ((hb3.out.block _ (lt_of_block r2.out)).trans r2.out)
      have hlt : Hid (w.heap.size < w2.heap.size) := lt_of_block r2.out
      rw [← hw3]
      clear hw3 r2 h2
      have c00 := box_at (j := 0) r3.out rfl
      have c01 := box_at (j := 1) r3.out rfl
      have c02 := box_at (j := 2) r3.out rfl
      have c03 := box_at (j := 3) r3.out rfl
      have c04 := box_at (j := 4) r3.out rfl
      have f0 := box_free r3.out
      go_wp2_with fail
      have rz := hid (set5_box (u0 := (.int .i64 0)) (u1 := (.int .i64 0)) (u2 := (.string ⟨#[]⟩)) (u3 := (.slice none 0 0)) (u4 := (.slice none 0 0)) r3.out)
      have hbz := hid (set5_below (hb2.out.step hb3.out) (Nat.le_refl _) (.int .i64 0) (.int .i64 0) (.string ⟨#[]⟩) (.slice none 0 0) (.slice none 0 0))
      unfold set5 at rz hbz
      clear c00 c01 c02 c03 c04 f0
      generalize (((((w3.setCell ⟨w.heap.size, 0, none⟩ (.int .i64 0)).setCell ⟨w.heap.size, 1, none⟩ (.int .i64 0)).setCell ⟨w.heap.size, 2, none⟩ (.string ⟨#[]⟩)).setCell ⟨w.heap.size, 3, none⟩ (.slice none 0 0)).setCell ⟨w.heap.size, 4, none⟩ (.slice none 0 0)) = w9 at *
      have z0 := box_at (j := 0) rz.out rfl
      have z1 := box_at (j := 1) rz.out rfl
      have z2 := box_at (j := 2) rz.out rfl
      have z3 := box_at (j := 3) rz.out rfl
      have z4 := box_at (j := 4) rz.out rfl
      refine ⟨rfl, _, by simp [results, Tryd.results29, go_sem, z0, z1, z2, z3, z4]; rfl, hbz.out, rfl⟩
    · rw [if_neg hlt']
      obtain rfl : n = l.length := by omega
      go_enter Tryd.func29, Tryd.ntmps29
      go_wp2_with fail
      refine (ht.out _ (below_new _ _)).mono ?_
      rintro e w2 ⟨h2, cs2, rfl, hr2⟩
      obtain ⟨ka, kc, kf, kg, rfl, _⟩ := hr2.inv
      replace hr2 := hid hr2
      have hb2 := hid ((below_new w _).step h2)
      have r2 := hid ((h2.block w.heap.size (by simp)).trans (heap_alloc_new w _))
      go_upto_region 2 with fail
      obtain ⟨w3, hw3⟩ : ∃ w3, w3 = w2.alloc (.cells #[.int .i64 kk, .int .i64 kn, .string ks, .slice ka kl.length kc, .slice kf kfv.length kg] 25) := ⟨_, rfl⟩
      have hb3 : Hid (Below w2.heap.size w2 w3) := by show Below _ _ _; rw [hw3]; exact below_new _ _
      have r4 : Hid (w3.heap[w2.heap.size]? = some (.cells #[.int .i64 kk, .int .i64 kn, .string ks, .slice ka kl.length kc, .slice kf kfv.length kg] 25 (0, 0))) := by show _ = _; rw [hw3]; exact heap_alloc_new _ _
      have r3 := hid ((hb3.out.block _ (lt_of_block r2.out)).trans r2.out)
      have hlt : Hid (w.heap.size < w2.heap.size) := lt_of_block r2.out
      rw [← hw3]
      clear hw3 r2 h2
      have c00 := box_at (j := 0) r3.out rfl
      have c01 := box_at (j := 1) r3.out rfl
      have c02 := box_at (j := 2) r3.out rfl
      have c03 := box_at (j := 3) r3.out rfl
      have c04 := box_at (j := 4) r3.out rfl
      have f0 := box_free r3.out
      have x0 := box_at (j := 0) r4.out rfl
      have x1 := box_at (j := 1) r4.out rfl
      have x2 := box_at (j := 2) r4.out rfl
      have x3 := box_at (j := 3) r4.out rfl
      have x4 := box_at (j := 4) r4.out rfl
      go_wp2_with fail
      clear x0 x1 x2 x3 x4
      have rz := hid (set5_box (u0 := (.int .i64 kk)) (u1 := (.int .i64 kn)) (u2 := (.string ks)) (u3 := (.slice ka kl.length kc)) (u4 := (.slice kf kfv.length kg)) r3.out)
      have hbz := hid (set5_below (hb2.out.step hb3.out) (Nat.le_refl _) (.int .i64 kk) (.int .i64 kn) (.string ks) (.slice ka kl.length kc) (.slice kf kfv.length kg))
      have hr9 : Hid (Rd (set5 w3 w.heap.size (.int .i64 kk) (.int .i64 kn) (.string ks) (.slice ka kl.length kc) (.slice kf kfv.length kg)) (From w.heap.size (set5 w3 w.heap.size (.int .i64 kk) (.int .i64 kn) (.string ks) (.slice ka kl.length kc) (.slice kf kfv.length kg))) (.mk kk kn ks kl kfn kfv) [.int .i64 kk, .int .i64 kn, .string ks, .slice ka kl.length kc, .slice kf kfv.length kg]) :=
        hr2.out.keep (fun b hb => ⟨by have := hb.1; simp at this; omega, by rw [set5_size]; exact Nat.lt_of_lt_of_le hb.2 hb3.out.size⟩) (fun b hb => by
          rw [set5_other _ _ _ _ _ _ _ (by have := hb.1; simp at this; omega)]
          exact hb3.out.block b hb.2)
      unfold set5 at rz hbz hr9
      clear c00 c01 c02 c03 c04 f0
      generalize (((((w3.setCell ⟨w.heap.size, 0, none⟩ (.int .i64 kk)).setCell ⟨w.heap.size, 1, none⟩ (.int .i64 kn)).setCell ⟨w.heap.size, 2, none⟩ (.string ks)).setCell ⟨w.heap.size, 3, none⟩ (.slice ka kl.length kc)).setCell ⟨w.heap.size, 4, none⟩ (.slice kf kfv.length kg)) = w9 at *
      have z0 := box_at (j := 0) rz.out rfl
      have z1 := box_at (j := 1) rz.out rfl
      have z2 := box_at (j := 2) rz.out rfl
      have z3 := box_at (j := 3) rz.out rfl
      have z4 := box_at (j := 4) rz.out rfl
      refine ⟨rfl, _, by simp [results, Tryd.results29, go_sem, z0, z1, z2, z3, z4], hbz.out, _, rfl, hr9.out⟩
end Go.Proofs.YtihcegakghmdfaaDoor

namespace Go.Proofs.YtihcegakghmdfaaDoor
open Go.RowKit Go.Proofs

theorem rtk_case {R : Got PVal} {p : Nat} {w w' : World} {e : Ending} (h : RTk R p w e w') : ∃ cs, e = .returned (.tuple #[.agg cs.toArray, .int .i64 (R.next p), .int .i64 R.err]) ∧ Below w.heap.size w w' ∧ Rd w' (From w.heap.size w') R.val cs := by
  obtain ⟨h1, h2⟩ := h
  cases R with
  | bad c => exact ⟨_, h2, h1, rd_zero⟩
  | ok V n =>
    obtain ⟨cs, rfl, hr⟩ := h2
    exact ⟨cs, by unfold Got.next; rw [Int.natCast_add]; rfl, h1, hr⟩

/-- What the region of the law reads: three boxes, and one text. -/
def VlS (A B C : Nat) (a0 a1 a2 a3 a4 b0 b1 b2 b3 b4 d0 d1 d2 d3 d4 v : Value) (t : ByteArray) (x : World) : Prop :=
  x.cell? ⟨A, 0, none⟩ = some a0 ∧ x.cell? ⟨A, 1, none⟩ = some a1 ∧ x.cell? ⟨A, 2, none⟩ = some a2 ∧ x.cell? ⟨A, 3, none⟩ = some a3 ∧ x.cell? ⟨A, 4, none⟩ = some a4 ∧ x.cell? ⟨B, 0, none⟩ = some b0 ∧ x.cell? ⟨B, 1, none⟩ = some b1 ∧ x.cell? ⟨B, 2, none⟩ = some b2 ∧ x.cell? ⟨B, 3, none⟩ = some b3 ∧ x.cell? ⟨B, 4, none⟩ = some b4 ∧ x.cell? ⟨C, 0, none⟩ = some d0 ∧ x.cell? ⟨C, 1, none⟩ = some d1 ∧ x.cell? ⟨C, 2, none⟩ = some d2 ∧ x.cell? ⟨C, 3, none⟩ = some d3 ∧ x.cell? ⟨C, 4, none⟩ = some d4 ∧ (convert 26 9 v).run Tryd.prog x = .ok (.string t) x

set_option maxRecDepth 100000 in
set_option maxHeartbeats 4000000 in
theorem values_calls (V : PVal) (hm : V.mass ≤ 1073741824) (z : Int) (hz : I64 z) {w : World} {cs : List Value} {bv : Value} {l : List UInt8} (hT : Tabs w) (hV : Rd w (Now w) V cs) (hb : BytesAt w (Now w) l bv) (hl : l.length ≤ 35184372088832) :
    Calls Tryd.prog 4 #[.agg cs.toArray, bv, .int .i64 z] w fun e w' => e = .returned (.bool true) ∧ Below w.heap.size w w' := by
  have hT := hid (fun w' hb => Tabs.stays w w' hT hb)
  have hV0 := hid hV
  have hv := hid (fun la c' w h => vast_calls [V] la c' w h (by simp))
  cases hvb : vast [V] with
  | true =>
    rw [hvb] at hv
    obtain ⟨k, n, s, l, fn, fv⟩ := V
    obtain ⟨la, lc, fa, fc, rfl, _⟩ := hV.inv
    clear hV hvb
    go_enter Tryd.func4, Tryd.ntmps4
    go_wp2_with fail
    refine (hv.out (some ⟨w.heap.size + 1, 0, none⟩) 1 _ (rdL_block (css := [[.int .i64 k, .int .i64 n, .string s, .slice la l.length lc, .slice fa fv.length fc]]) rfl rfl rfl (one_rd (hV0.out.later ((below_new _ _).step (below_new _ _)))) (blk_new (by simp)) (by simp))).mono ?_
    rintro e w1 ⟨rfl, h1⟩
    go_wp2_with fail
    go_ret
    exact ⟨rfl, ((below_new _ _).step (below_new _ _)).step h1⟩
  | false =>
    rw [hvb] at hv
    have hnl : ¬ 5000 ≤ nodesL [V] := of_decide_eq_false hvb
    have hN : V.nodes ≤ 20000 := by
      rw [nodesL, nodesL] at hnl
      omega
    have hel := enc_le V hV.fits
    have gp := hid (fun w cs hT h => put_calls V w cs hN hT h (by omega))
    unfold Written at gp
    have gg := hid (fun (w' : World) (h : Below w.heap.size w w') => (get_calls (hb.later h) (hT.out _ h) (by omega)).mono fun e w2 h => gotV_case h)
    have gr := hid (fun (w' : World) (h : Below w.heap.size w w') => (rget_calls (hb.later h) hl).mono fun e w2 h => gotV_case h)
    have gt := hid (fun (w' : World) (h : Below w.heap.size w w') => (take_calls (hb.later h) (hT.out _ h) (by omega) z hz).mono fun e w2 h => taken_case h)
    have gk : Hid (∀ (p : Nat), p ≤ l.length → z = (p : Int) → ∀ (w' : World), Below w.heap.size w w' → Calls Tryd.prog 33 #[bv, .int .i64 (p : Int)] w' fun e w2 => ∃ cs, e = .returned (.tuple #[.agg cs.toArray, .int .i64 ((takeAt l z).next z), .int .i64 (takeAt l z).err]) ∧ Below w'.heap.size w' w2 ∧ Rd w2 (From w'.heap.size w2) (takeAt l z).val cs) := by
      rintro p hp rfl w' h
      have e0 : takeAt l (p : Int) = takeR (l.drop p) := by unfold takeAt; rw [if_neg (by omega)]; rfl
      rw [e0]
      exact (rtk_calls (hb.later h) hl p hp).mono fun e w2 h => rtk_case h
    have ho : Hid (z < 0 ∨ (l.length : Int) < z → (takeAt l z).next z = 0 ∧ (takeAt l z).err = 1 ∧ (takeAt l z).val = zeroV) := fun h => by unfold takeAt; rw [if_pos h]; exact ⟨rfl, rfl, rfl⟩
    have gd := hid (fun w cs h => rgood_calls V hN hm w cs h)
    have gb := hid (fun w cs h => rbytes_calls V w cs (by omega) h)
    have haw := hid awake3_calls
    have hs3 := hid (fun (V : PVal) w cs cs' => same3_calls V V true (by simp) w cs cs')
    have hzr := hid (fun (V : PVal) (h : V = zeroV) w cs => zero_calls V true (by simp [h]) w cs)
    have hen0 : V.enc ≠ [] := by cases V; simp [PVal.enc]
    generalize V.good = G at *
    generalize V.enc = en at *
    generalize (takeAt l z).next z = tn at *
    generalize (takeAt l z).err = te at *
    generalize (takeAt l z).val = TV at *
    generalize (getR l).err = re at *
    generalize (getR l).val = RV at *
    replace hen0 := hid hen0
    obtain ⟨xk, xn, xs, xl, xfn, xfv⟩ := RV
    obtain ⟨yk, yn, ys, yl, yfn, yfv⟩ := TV
    obtain ⟨k, n, s, vl, fn, fv⟩ := V
    obtain ⟨la, lc, fa, fc, rfl, _⟩ := hV.inv
    obtain ⟨ba, bc, rfl, hc1, hc2, _⟩ := hb
    clear hV hvb hnl hm hel
    go_enter Tryd.func4, Tryd.ntmps4
    go_wp2_with fail
    refine (hv.out (some ⟨w.heap.size + 1, 0, none⟩) 1 _ (rdL_block (css := [[.int .i64 k, .int .i64 n, .string s, .slice la vl.length lc, .slice fa fv.length fc]]) rfl rfl rfl (one_rd (hV0.out.later ((below_new _ _).step (below_new _ _)))) (blk_new (by simp)) (by simp))).mono ?_
    rintro e w1 ⟨rfl, h1⟩
    have N := (below_new (w.alloc (.cells #[.int .i64 k, .int .i64 n, .string s, .slice la vl.length lc, .slice fa fv.length fc] 25)) _).step h1
    have D := hid ((below_new w _).step N)
    have r3 := hid ((N.block _ (by simp)).trans (heap_alloc_new w (.cells #[.int .i64 k, .int .i64 n, .string s, .slice la vl.length lc, .slice fa fv.length fc] 25)))
    have a0 := box_at (j := 0) r3.out rfl
    have a1 := box_at (j := 1) r3.out rfl
    have a2 := box_at (j := 2) r3.out rfl
    have a3 := box_at (j := 3) r3.out rfl
    have a4 := box_at (j := 4) r3.out rfl
    clear N h1
    go_wp2_with fail
    refine (gp.out _ _ (hT.out _ D.out) (hV0.out.later D.out)).mono ?_
    rintro e w2 ⟨v2, rfl, hp2⟩
    obtain ⟨L2, hL2⟩ : ∃ L2, L2 = if G = 0 then en else [] := ⟨_, rfl⟩
    rw [← hL2] at hp2
    replace hL2 := hid hL2
    obtain ⟨pa, pc, rfl, _, _⟩ := hp2.any
    replace r3 := hid ((hp2.below.block _ (lt_of_block r3.out)).trans r3.out)
    replace D := hid (D.out.step hp2.below)
    have E2 := hid (Below.refl w2.heap.size w2)
    replace hp2 := hid hp2
    clear a0 a1 a2 a3 a4
    go_wp2_with fail
    refine (gg.out _ D.out).mono ?_
    rintro e w3 ⟨cs3, rfl, h3, hr3⟩
    obtain ⟨xa, xc, za, zc, rfl, _⟩ := hr3.inv
    replace hr3 : Hid (Rd w3 (Now w3) _ _) := hr3.keep (fun b hb => hb.2) (fun _ _ => rfl)
    replace r3 := hid ((h3.block _ (lt_of_block r3.out)).trans r3.out)
    replace D := hid (D.out.step h3)
    replace E2 := hid (E2.out.step h3)
    clear h3
    go_wp2_with fail
    refine (gt.out _ (D.out.step (below_new _ _))).mono ?_
    rintro e w4 ⟨cs4, rfl, h4, hr4⟩
    obtain ⟨ya, yc, ua, uc, rfl, _⟩ := hr4.inv
    replace hr4 : Hid (Rd w4 (Now w4) _ _) := hr4.keep (fun b hb => hb.2) (fun _ _ => rfl)
    have N4 := (below_new w3 (.cells #[.int .i64 xk, .int .i64 xn, .string xs, .slice xa xl.length xc, .slice za xfv.length zc] 25)).step h4
    have r9 := hid ((h4.block w3.heap.size (by simp)).trans (heap_alloc_new w3 _))
    replace r3 := hid ((N4.block _ (lt_of_block r3.out)).trans r3.out)
    replace D := hid (D.out.step N4)
    replace E2 := hid (E2.out.step N4)
    replace hr3 := hid (hr3.out.later N4)
    clear h4 N4
    go_wp2_with fail
    refine (gr.out _ (D.out.step (below_new _ _))).mono ?_
    rintro e w5 ⟨cs5, rfl, h5, hr5⟩
    obtain ⟨wa, wc, ta, tc, rfl, _⟩ := hr5.inv
    replace hr5 : Hid (Rd w5 (Now w5) _ _) := hr5.keep (fun b hb => hb.2) (fun _ _ => rfl)
    have N5 := (below_new w4 (.cells #[.int .i64 yk, .int .i64 yn, .string ys, .slice ya yl.length yc, .slice ua yfv.length uc] 25)).step h5
    have r11 := hid ((h5.block w4.heap.size (by simp)).trans (heap_alloc_new w4 _))
    replace r3 := hid ((N5.block _ (lt_of_block r3.out)).trans r3.out)
    replace r9 := hid ((N5.block _ (lt_of_block r9.out)).trans r9.out)
    replace D := hid (D.out.step N5)
    replace E2 := hid (E2.out.step N5)
    replace hr3 := hid (hr3.out.later N5)
    replace hr4 := hid (hr4.out.later N5)
    clear h5 N5
    have r3' := (below_new w5 (.cells #[.int .i64 xk, .int .i64 xn, .string xs, .slice wa xl.length wc, .slice ta xfv.length tc] 25)).block _ (lt_of_block r3.out) |>.trans r3.out
    have a0 := box_at (j := 0) r3' rfl
    have a1 := box_at (j := 1) r3' rfl
    have a2 := box_at (j := 2) r3' rfl
    have a3 := box_at (j := 3) r3' rfl
    have a4 := box_at (j := 4) r3' rfl
    clear r3'
    go_wp2_with fail
    refine (gd.out _ _ (hV0.out.later (D.out.step (below_new _ _)))).mono ?_
    rintro e w6 ⟨rfl, h6⟩
    have N6 := (below_new w5 (.cells #[.int .i64 xk, .int .i64 xn, .string xs, .slice wa xl.length wc, .slice ta xfv.length tc] 25)).step h6
    have r14 := hid ((h6.block w5.heap.size (by simp)).trans (heap_alloc_new w5 _))
    replace r3 := hid ((N6.block _ (lt_of_block r3.out)).trans r3.out)
    replace r9 := hid ((N6.block _ (lt_of_block r9.out)).trans r9.out)
    replace r11 := hid ((N6.block _ (lt_of_block r11.out)).trans r11.out)
    replace D := hid (D.out.step N6)
    replace E2 := hid (E2.out.step N6)
    replace hr3 := hid (hr3.out.later N6)
    replace hr4 := hid (hr4.out.later N6)
    replace hr5 := hid (hr5.out.later N6)
    clear h6 N6 a0 a1 a2 a3 a4
    have hkS : Hid (∀ x, Below w6.heap.size w6 x → x.cell? ⟨w.heap.size, 0, none⟩ = some (.int .i64 k) ∧ x.cell? ⟨w.heap.size, 1, none⟩ = some (.int .i64 n) ∧ x.cell? ⟨w.heap.size, 2, none⟩ = some (.string s) ∧ x.cell? ⟨w.heap.size, 3, none⟩ = some (.slice la vl.length lc) ∧ x.cell? ⟨w.heap.size, 4, none⟩ = some (.slice fa fv.length fc) ∧ x.cell? ⟨w3.heap.size, 0, none⟩ = some (.int .i64 xk) ∧ x.cell? ⟨w3.heap.size, 1, none⟩ = some (.int .i64 xn) ∧ x.cell? ⟨w3.heap.size, 2, none⟩ = some (.string xs) ∧ x.cell? ⟨w3.heap.size, 3, none⟩ = some (.slice xa xl.length xc) ∧ x.cell? ⟨w3.heap.size, 4, none⟩ = some (.slice za xfv.length zc) ∧ x.cell? ⟨w5.heap.size, 0, none⟩ = some (.int .i64 xk) ∧ x.cell? ⟨w5.heap.size, 1, none⟩ = some (.int .i64 xn) ∧ x.cell? ⟨w5.heap.size, 2, none⟩ = some (.string xs) ∧ x.cell? ⟨w5.heap.size, 3, none⟩ = some (.slice wa xl.length wc) ∧ x.cell? ⟨w5.heap.size, 4, none⟩ = some (.slice ta xfv.length tc)) := fun x h => by
      have h3 := (h.block _ (lt_of_block r3.out)).trans r3.out
      have h9 := (h.block _ (lt_of_block r9.out)).trans r9.out
      have h14 := (h.block _ (lt_of_block r14.out)).trans r14.out
      exact ⟨box_at (j := 0) h3 rfl, box_at (j := 1) h3 rfl, box_at (j := 2) h3 rfl, box_at (j := 3) h3 rfl, box_at (j := 4) h3 rfl, box_at (j := 0) h9 rfl, box_at (j := 1) h9 rfl, box_at (j := 2) h9 rfl, box_at (j := 3) h9 rfl, box_at (j := 4) h9 rfl, box_at (j := 0) h14 rfl, box_at (j := 1) h14 rfl, box_at (j := 2) h14 rfl, box_at (j := 3) h14 rfl, box_at (j := 4) h14 rfl⟩
    have hcv : Hid (∀ x, Below w2.heap.size w2 x → (convert 26 9 (.slice pa L2.length pc)).run Tryd.prog x = .ok (.string ⟨L2.toArray⟩) x) := fun x h => conv_buf Tryd.underlying26 Tryd.underlying5 Tryd.underlying9 (hp2.out.later h)
    go_upto_region 8 with fail
    go_cut [7, 85] from 20 to 85 (fun _ c wx => c = .bool false ∧ Below w6.heap.size w6 wx)
    case first =>
      clear ho gk gt gp gg gr gd hp2
      by_cases hG : G = 0
      · subst hG
        have hLe : L2 = en := by rw [hL2.out, if_pos rfl]
        replace hcv : Hid (∀ x, Below w2.heap.size w2 x → (convert 26 9 (.slice pa L2.length pc)).run Tryd.prog x = .ok (.string ⟨en.toArray⟩) x) := by rw [← hLe]; exact hcv
        clear hLe hL2
        have hS : Hid (∀ x, Below w6.heap.size w6 x → VlS w.heap.size w3.heap.size w5.heap.size (.int .i64 k) (.int .i64 n) (.string s) (.slice la vl.length lc) (.slice fa fv.length fc) (.int .i64 xk) (.int .i64 xn) (.string xs) (.slice xa xl.length xc) (.slice za xfv.length zc) (.int .i64 xk) (.int .i64 xn) (.string xs) (.slice wa xl.length wc) (.slice ta xfv.length tc) (.slice pa L2.length pc) ⟨en.toArray⟩ x) := fun x h => by
          obtain ⟨a0, a1, a2, a3, a4, b0, b1, b2, b3, b4, d0, d1, d2, d3, d4⟩ := hkS.out x h
          exact ⟨a0, a1, a2, a3, a4, b0, b1, b2, b3, b4, d0, d1, d2, d3, d4, hcv.out x (E2.out.step h)⟩
        clear hkS hcv
        refine wp_region_T (VlS w.heap.size w3.heap.size w5.heap.size (.int .i64 k) (.int .i64 n) (.string s) (.slice la vl.length lc) (.slice fa fv.length fc) (.int .i64 xk) (.int .i64 xn) (.string xs) (.slice xa xl.length xc) (.slice za xfv.length zc) (.int .i64 xk) (.int .i64 xn) (.string xs) (.slice wa xl.length wc) (.slice ta xfv.length tc) (.slice pa L2.length pc) ⟨en.toArray⟩) 39 (by kernel_rfl) ?_
        refine wpAnyT_one (i := 0) (by kernel_rfl) rfl (fun K hK => ?_)
        go_simp
        refine (haw.out _ (hT.out _ D.out.drew)).mono ?_
        rintro e w7 ⟨rfl, h7⟩
        have E7 := hid ((Below.refl w6.heap.size w6).drew.step h7)
        clear h7
        have hS7 := hS.out _ E7.out
        (refine hK.out _ _ (fun _ => hS7) (fun _ => ?_); clear hK K; (try simp only [Act.put, List.setIfInBounds_toArray, List.set_cons_zero, List.set_cons_succ]))
        ((refine wpAnyT_take (i := 1) (v := ?_) rfl (by kernel_rfl) (by kernel_rfl) (by kernel_rfl) (by kernel_rfl) (by exact fun _ _ _ h => h) (Or.inl ⟨by kernel_rfl, ?_⟩) hS7 ?_; rotate_left 1; focus (intro w hSw; unfold VlS at hSw; (try dsimp only at hSw); go_simp; try with_reducible rfl); (try simp only [List.getElem_toArray, List.getElem_cons_zero, List.getElem_cons_succ, Act.put, List.setIfInBounds_toArray, List.set_cons_zero, List.set_cons_succ])); (refine wpAnyT_take (i := 2) (v := ?_) rfl (by kernel_rfl) (by kernel_rfl) (by kernel_rfl) (by kernel_rfl) (by exact fun _ _ _ h => h) (Or.inl ⟨by kernel_rfl, ?_⟩) hS7 ?_; rotate_left 1; focus (intro w hSw; unfold VlS at hSw; (try dsimp only at hSw); go_simp; try with_reducible rfl); (try simp only [List.getElem_toArray, List.getElem_cons_zero, List.getElem_cons_succ, Act.put, List.setIfInBounds_toArray, List.set_cons_zero, List.set_cons_succ])); (refine wpAnyT_take (i := 3) (v := ?_) rfl (by kernel_rfl) (by kernel_rfl) (by kernel_rfl) (by kernel_rfl) (by exact fun _ _ _ h => h) (Or.inl ⟨by kernel_rfl, ?_⟩) hS7 ?_; rotate_left 1; focus (intro w hSw; unfold VlS at hSw; (try dsimp only at hSw); go_simp; try with_reducible rfl); (try simp only [List.getElem_toArray, List.getElem_cons_zero, List.getElem_cons_succ, Act.put, List.setIfInBounds_toArray, List.set_cons_zero, List.set_cons_succ])); (refine wpAnyT_take (i := 4) (v := ?_) rfl (by kernel_rfl) (by kernel_rfl) (by kernel_rfl) (by kernel_rfl) (by exact fun _ _ _ h => h) (Or.inl ⟨by kernel_rfl, ?_⟩) hS7 ?_; rotate_left 1; focus (intro w hSw; unfold VlS at hSw; (try dsimp only at hSw); go_simp; try with_reducible rfl); (try simp only [List.getElem_toArray, List.getElem_cons_zero, List.getElem_cons_succ, Act.put, List.setIfInBounds_toArray, List.set_cons_zero, List.set_cons_succ])); (refine wpAnyT_take (i := 5) (v := ?_) rfl (by kernel_rfl) (by kernel_rfl) (by kernel_rfl) (by kernel_rfl) (by exact fun _ _ _ h => h) (Or.inl ⟨by kernel_rfl, ?_⟩) hS7 ?_; rotate_left 1; focus (intro w hSw; unfold VlS at hSw; (try dsimp only at hSw); go_simp; try with_reducible rfl); (try simp only [List.getElem_toArray, List.getElem_cons_zero, List.getElem_cons_succ, Act.put, List.setIfInBounds_toArray, List.set_cons_zero, List.set_cons_succ])); (refine wpAnyT_take (i := 6) (v := ?_) rfl (by kernel_rfl) (by kernel_rfl) (by kernel_rfl) (by kernel_rfl) (by exact fun _ _ _ h => h) (Or.inl ⟨by kernel_rfl, ?_⟩) hS7 ?_; rotate_left 1; focus (intro w hSw; unfold VlS at hSw; (try dsimp only at hSw); go_simp; try with_reducible rfl); (try simp only [List.getElem_toArray, List.getElem_cons_zero, List.getElem_cons_succ, Act.put, List.setIfInBounds_toArray, List.set_cons_zero, List.set_cons_succ])); (refine wpAnyT_take (i := 7) (v := ?_) rfl (by kernel_rfl) (by kernel_rfl) (by kernel_rfl) (by kernel_rfl) (by exact fun _ _ _ h => h) (Or.inl ⟨by kernel_rfl, ?_⟩) hS7 ?_; rotate_left 1; focus (intro w hSw; unfold VlS at hSw; (try dsimp only at hSw); go_simp; try with_reducible rfl); (try simp only [List.getElem_toArray, List.getElem_cons_zero, List.getElem_cons_succ, Act.put, List.setIfInBounds_toArray, List.set_cons_zero, List.set_cons_succ])); (refine wpAnyT_take (i := 8) (v := ?_) rfl (by kernel_rfl) (by kernel_rfl) (by kernel_rfl) (by kernel_rfl) (by exact fun _ _ _ h => h) (Or.inl ⟨by kernel_rfl, ?_⟩) hS7 ?_; rotate_left 1; focus (intro w hSw; unfold VlS at hSw; (try dsimp only at hSw); go_simp; try with_reducible rfl); (try simp only [List.getElem_toArray, List.getElem_cons_zero, List.getElem_cons_succ, Act.put, List.setIfInBounds_toArray, List.set_cons_zero, List.set_cons_succ])); (refine wpAnyT_take (i := 9) (v := ?_) rfl (by kernel_rfl) (by kernel_rfl) (by kernel_rfl) (by kernel_rfl) (by exact fun _ _ _ h => h) (Or.inl ⟨by kernel_rfl, ?_⟩) hS7 ?_; rotate_left 1; focus (intro w hSw; unfold VlS at hSw; (try dsimp only at hSw); go_simp; try with_reducible rfl); (try simp only [List.getElem_toArray, List.getElem_cons_zero, List.getElem_cons_succ, Act.put, List.setIfInBounds_toArray, List.set_cons_zero, List.set_cons_succ])); (refine wpAnyT_take (i := 10) (v := ?_) rfl (by kernel_rfl) (by kernel_rfl) (by kernel_rfl) (by kernel_rfl) (by exact fun _ _ _ h => h) (Or.inl ⟨by kernel_rfl, ?_⟩) hS7 ?_; rotate_left 1; focus (intro w hSw; unfold VlS at hSw; (try dsimp only at hSw); go_simp; try with_reducible rfl); (try simp only [List.getElem_toArray, List.getElem_cons_zero, List.getElem_cons_succ, Act.put, List.setIfInBounds_toArray, List.set_cons_zero, List.set_cons_succ])))
        ((refine wpAnyT_take (i := 11) (v := _) rfl (by kernel_rfl) (by kernel_rfl) (by kernel_rfl) (by kernel_rfl) (by exact fun _ _ _ h => h) (Or.inr ⟨by kernel_rfl, rfl⟩) hS7 ?_; (try simp only [List.getElem_toArray, List.getElem_cons_zero, List.getElem_cons_succ, Act.put, List.setIfInBounds_toArray, List.set_cons_zero, List.set_cons_succ])); (refine wpAnyT_take (i := 12) (v := _) rfl (by kernel_rfl) (by kernel_rfl) (by kernel_rfl) (by kernel_rfl) (by exact fun _ _ _ h => h) (Or.inr ⟨by kernel_rfl, rfl⟩) hS7 ?_; (try simp only [List.getElem_toArray, List.getElem_cons_zero, List.getElem_cons_succ, Act.put, List.setIfInBounds_toArray, List.set_cons_zero, List.set_cons_succ])); (refine wpAnyT_take (i := 13) (v := _) rfl (by kernel_rfl) (by kernel_rfl) (by kernel_rfl) (by kernel_rfl) (by exact fun _ _ _ h => h) (Or.inr ⟨by kernel_rfl, rfl⟩) hS7 ?_; (try simp only [List.getElem_toArray, List.getElem_cons_zero, List.getElem_cons_succ, Act.put, List.setIfInBounds_toArray, List.set_cons_zero, List.set_cons_succ])))
        ((refine wpAnyT_take (i := 14) (v := ?_) rfl (by kernel_rfl) (by kernel_rfl) (by kernel_rfl) (by kernel_rfl) (by exact fun _ _ _ h => h) (Or.inl ⟨by kernel_rfl, ?_⟩) hS7 ?_; rotate_left 1; focus (intro w hSw; unfold VlS at hSw; (try dsimp only at hSw); go_simp; try with_reducible rfl); (try simp only [List.getElem_toArray, List.getElem_cons_zero, List.getElem_cons_succ, Act.put, List.setIfInBounds_toArray, List.set_cons_zero, List.set_cons_succ])); (refine wpAnyT_take (i := 15) (v := ?_) rfl (by kernel_rfl) (by kernel_rfl) (by kernel_rfl) (by kernel_rfl) (by exact fun _ _ _ h => h) (Or.inl ⟨by kernel_rfl, ?_⟩) hS7 ?_; rotate_left 1; focus (intro w hSw; unfold VlS at hSw; (try dsimp only at hSw); go_simp; try with_reducible rfl); (try simp only [List.getElem_toArray, List.getElem_cons_zero, List.getElem_cons_succ, Act.put, List.setIfInBounds_toArray, List.set_cons_zero, List.set_cons_succ])); (refine wpAnyT_take (i := 16) (v := ?_) rfl (by kernel_rfl) (by kernel_rfl) (by kernel_rfl) (by kernel_rfl) (by exact fun _ _ _ h => h) (Or.inl ⟨by kernel_rfl, ?_⟩) hS7 ?_; rotate_left 1; focus (intro w hSw; unfold VlS at hSw; (try dsimp only at hSw); go_simp; try with_reducible rfl); (try simp only [List.getElem_toArray, List.getElem_cons_zero, List.getElem_cons_succ, Act.put, List.setIfInBounds_toArray, List.set_cons_zero, List.set_cons_succ])); (refine wpAnyT_take (i := 17) (v := ?_) rfl (by kernel_rfl) (by kernel_rfl) (by kernel_rfl) (by kernel_rfl) (by exact fun _ _ _ h => h) (Or.inl ⟨by kernel_rfl, ?_⟩) hS7 ?_; rotate_left 1; focus (intro w hSw; unfold VlS at hSw; (try dsimp only at hSw); go_simp; try with_reducible rfl); (try simp only [List.getElem_toArray, List.getElem_cons_zero, List.getElem_cons_succ, Act.put, List.setIfInBounds_toArray, List.set_cons_zero, List.set_cons_succ])); (refine wpAnyT_take (i := 18) (v := ?_) rfl (by kernel_rfl) (by kernel_rfl) (by kernel_rfl) (by kernel_rfl) (by exact fun _ _ _ h => h) (Or.inl ⟨by kernel_rfl, ?_⟩) hS7 ?_; rotate_left 1; focus (intro w hSw; unfold VlS at hSw; (try dsimp only at hSw); go_simp; try with_reducible rfl); (try simp only [List.getElem_toArray, List.getElem_cons_zero, List.getElem_cons_succ, Act.put, List.setIfInBounds_toArray, List.set_cons_zero, List.set_cons_succ])); (refine wpAnyT_take (i := 19) (v := ?_) rfl (by kernel_rfl) (by kernel_rfl) (by kernel_rfl) (by kernel_rfl) (by exact fun _ _ _ h => h) (Or.inl ⟨by kernel_rfl, ?_⟩) hS7 ?_; rotate_left 1; focus (intro w hSw; unfold VlS at hSw; (try dsimp only at hSw); go_simp; try with_reducible rfl); (try simp only [List.getElem_toArray, List.getElem_cons_zero, List.getElem_cons_succ, Act.put, List.setIfInBounds_toArray, List.set_cons_zero, List.set_cons_succ])); (refine wpAnyT_take (i := 20) (v := ?_) rfl (by kernel_rfl) (by kernel_rfl) (by kernel_rfl) (by kernel_rfl) (by exact fun _ _ _ h => h) (Or.inl ⟨by kernel_rfl, ?_⟩) hS7 ?_; rotate_left 1; focus (intro w hSw; unfold VlS at hSw; (try dsimp only at hSw); go_simp; try with_reducible rfl); (try simp only [List.getElem_toArray, List.getElem_cons_zero, List.getElem_cons_succ, Act.put, List.setIfInBounds_toArray, List.set_cons_zero, List.set_cons_succ])); (refine wpAnyT_take (i := 21) (v := ?_) rfl (by kernel_rfl) (by kernel_rfl) (by kernel_rfl) (by kernel_rfl) (by exact fun _ _ _ h => h) (Or.inl ⟨by kernel_rfl, ?_⟩) hS7 ?_; rotate_left 1; focus (intro w hSw; unfold VlS at hSw; (try dsimp only at hSw); go_simp; try with_reducible rfl); (try simp only [List.getElem_toArray, List.getElem_cons_zero, List.getElem_cons_succ, Act.put, List.setIfInBounds_toArray, List.set_cons_zero, List.set_cons_succ])); (refine wpAnyT_take (i := 22) (v := ?_) rfl (by kernel_rfl) (by kernel_rfl) (by kernel_rfl) (by kernel_rfl) (by exact fun _ _ _ h => h) (Or.inl ⟨by kernel_rfl, ?_⟩) hS7 ?_; rotate_left 1; focus (intro w hSw; unfold VlS at hSw; (try dsimp only at hSw); go_simp; try with_reducible rfl); (try simp only [List.getElem_toArray, List.getElem_cons_zero, List.getElem_cons_succ, Act.put, List.setIfInBounds_toArray, List.set_cons_zero, List.set_cons_succ])))
        refine wpAnyT_one (i := 23) (by kernel_rfl) rfl (fun K hK => ?_)
        go_simp
        refine (gb.out _ _ (hV0.out.later (D.out.step E7.out))).mono ?_
        rintro e w8 ⟨v8, rfl, g8, c8, rfl, hm8⟩
        have E8 := hid (E7.out.step hm8.below)
        have cv8 := conv_buf (P := Tryd.prog) Tryd.underlying26 Tryd.underlying5 Tryd.underlying9 hm8
        clear hm8 hS7
        have hS8 := hS.out _ E8.out
        (refine hK.out _ _ (fun _ => hS8) (fun _ => ?_); clear hK K; (try simp only [Act.put, List.setIfInBounds_toArray, List.set_cons_zero, List.set_cons_succ]))
        refine wpAnyT_one (i := 24) (by kernel_rfl) rfl (fun K hK => ?_)
        go_simp
        (refine hK.out _ _ (fun _ => hS8) (fun _ => ?_); clear hK K; (try simp only [Act.put, List.setIfInBounds_toArray, List.set_cons_zero, List.set_cons_succ]))
        clear cv8
        ((refine wpAnyT_take (i := 25) (v := ?_) rfl (by kernel_rfl) (by kernel_rfl) (by kernel_rfl) (by kernel_rfl) (by exact fun _ _ _ h => h) (Or.inl ⟨by kernel_rfl, ?_⟩) hS8 ?_; rotate_left 1; focus (intro w hSw; unfold VlS at hSw; (try dsimp only at hSw); go_simp; try with_reducible rfl); (try simp only [List.getElem_toArray, List.getElem_cons_zero, List.getElem_cons_succ, Act.put, List.setIfInBounds_toArray, List.set_cons_zero, List.set_cons_succ])); (refine wpAnyT_take (i := 26) (v := ?_) rfl (by kernel_rfl) (by kernel_rfl) (by kernel_rfl) (by kernel_rfl) (by exact fun _ _ _ h => h) (Or.inl ⟨by kernel_rfl, ?_⟩) hS8 ?_; rotate_left 1; focus (intro w hSw; unfold VlS at hSw; (try dsimp only at hSw); go_simp; try with_reducible rfl); (try simp only [List.getElem_toArray, List.getElem_cons_zero, List.getElem_cons_succ, Act.put, List.setIfInBounds_toArray, List.set_cons_zero, List.set_cons_succ])); (refine wpAnyT_take (i := 27) (v := ?_) rfl (by kernel_rfl) (by kernel_rfl) (by kernel_rfl) (by kernel_rfl) (by exact fun _ _ _ h => h) (Or.inl ⟨by kernel_rfl, ?_⟩) hS8 ?_; rotate_left 1; focus (intro w hSw; unfold VlS at hSw; (try dsimp only at hSw); go_simp; try with_reducible rfl); (try simp only [List.getElem_toArray, List.getElem_cons_zero, List.getElem_cons_succ, Act.put, List.setIfInBounds_toArray, List.set_cons_zero, List.set_cons_succ])); (refine wpAnyT_take (i := 28) (v := ?_) rfl (by kernel_rfl) (by kernel_rfl) (by kernel_rfl) (by kernel_rfl) (by exact fun _ _ _ h => h) (Or.inl ⟨by kernel_rfl, ?_⟩) hS8 ?_; rotate_left 1; focus (intro w hSw; unfold VlS at hSw; (try dsimp only at hSw); go_simp; try with_reducible rfl); (try simp only [List.getElem_toArray, List.getElem_cons_zero, List.getElem_cons_succ, Act.put, List.setIfInBounds_toArray, List.set_cons_zero, List.set_cons_succ])); (refine wpAnyT_take (i := 29) (v := ?_) rfl (by kernel_rfl) (by kernel_rfl) (by kernel_rfl) (by kernel_rfl) (by exact fun _ _ _ h => h) (Or.inl ⟨by kernel_rfl, ?_⟩) hS8 ?_; rotate_left 1; focus (intro w hSw; unfold VlS at hSw; (try dsimp only at hSw); go_simp; try with_reducible rfl); (try simp only [List.getElem_toArray, List.getElem_cons_zero, List.getElem_cons_succ, Act.put, List.setIfInBounds_toArray, List.set_cons_zero, List.set_cons_succ])); (refine wpAnyT_take (i := 30) (v := ?_) rfl (by kernel_rfl) (by kernel_rfl) (by kernel_rfl) (by kernel_rfl) (by exact fun _ _ _ h => h) (Or.inl ⟨by kernel_rfl, ?_⟩) hS8 ?_; rotate_left 1; focus (intro w hSw; unfold VlS at hSw; (try dsimp only at hSw); go_simp; try with_reducible rfl); (try simp only [List.getElem_toArray, List.getElem_cons_zero, List.getElem_cons_succ, Act.put, List.setIfInBounds_toArray, List.set_cons_zero, List.set_cons_succ])); (refine wpAnyT_take (i := 31) (v := ?_) rfl (by kernel_rfl) (by kernel_rfl) (by kernel_rfl) (by kernel_rfl) (by exact fun _ _ _ h => h) (Or.inl ⟨by kernel_rfl, ?_⟩) hS8 ?_; rotate_left 1; focus (intro w hSw; unfold VlS at hSw; (try dsimp only at hSw); go_simp; try with_reducible rfl); (try simp only [List.getElem_toArray, List.getElem_cons_zero, List.getElem_cons_succ, Act.put, List.setIfInBounds_toArray, List.set_cons_zero, List.set_cons_succ])); (refine wpAnyT_take (i := 32) (v := ?_) rfl (by kernel_rfl) (by kernel_rfl) (by kernel_rfl) (by kernel_rfl) (by exact fun _ _ _ h => h) (Or.inl ⟨by kernel_rfl, ?_⟩) hS8 ?_; rotate_left 1; focus (intro w hSw; unfold VlS at hSw; (try dsimp only at hSw); go_simp; try with_reducible rfl); (try simp only [List.getElem_toArray, List.getElem_cons_zero, List.getElem_cons_succ, Act.put, List.setIfInBounds_toArray, List.set_cons_zero, List.set_cons_succ])); (refine wpAnyT_take (i := 33) (v := ?_) rfl (by kernel_rfl) (by kernel_rfl) (by kernel_rfl) (by kernel_rfl) (by exact fun _ _ _ h => h) (Or.inl ⟨by kernel_rfl, ?_⟩) hS8 ?_; rotate_left 1; focus (intro w hSw; unfold VlS at hSw; (try dsimp only at hSw); go_simp; try with_reducible rfl); (try simp only [List.getElem_toArray, List.getElem_cons_zero, List.getElem_cons_succ, Act.put, List.setIfInBounds_toArray, List.set_cons_zero, List.set_cons_succ])); (refine wpAnyT_take (i := 34) (v := ?_) rfl (by kernel_rfl) (by kernel_rfl) (by kernel_rfl) (by kernel_rfl) (by exact fun _ _ _ h => h) (Or.inl ⟨by kernel_rfl, ?_⟩) hS8 ?_; rotate_left 1; focus (intro w hSw; unfold VlS at hSw; (try dsimp only at hSw); go_simp; try with_reducible rfl); (try simp only [List.getElem_toArray, List.getElem_cons_zero, List.getElem_cons_succ, Act.put, List.setIfInBounds_toArray, List.set_cons_zero, List.set_cons_succ])); (refine wpAnyT_take (i := 35) (v := ?_) rfl (by kernel_rfl) (by kernel_rfl) (by kernel_rfl) (by kernel_rfl) (by exact fun _ _ _ h => h) (Or.inl ⟨by kernel_rfl, ?_⟩) hS8 ?_; rotate_left 1; focus (intro w hSw; unfold VlS at hSw; (try dsimp only at hSw); go_simp; try with_reducible rfl); (try simp only [List.getElem_toArray, List.getElem_cons_zero, List.getElem_cons_succ, Act.put, List.setIfInBounds_toArray, List.set_cons_zero, List.set_cons_succ])))
        refine wpAnyT_one (i := 36) (by kernel_rfl) rfl (fun K hK => ?_)
        go_simp
        refine (hs3.out _ _ _ _ (hr3.out.later E8.out) (hr5.out.later E8.out)).mono ?_
        rintro e w9 ⟨rfl, h9⟩
        have E9 := hid (E8.out.step h9)
        clear h9 hS8
        have hS9 := hS.out _ E9.out
        (refine hK.out _ _ (fun _ => hS9) (fun _ => ?_); clear hK K; (try simp only [Act.put, List.setIfInBounds_toArray, List.set_cons_zero, List.set_cons_succ]))
        ((refine wpAnyT_take (i := 37) (v := ?_) rfl (by kernel_rfl) (by kernel_rfl) (by kernel_rfl) (by kernel_rfl) (by exact fun _ _ _ h => h) (Or.inl ⟨by kernel_rfl, ?_⟩) hS9 ?_; rotate_left 1; focus (intro w hSw; unfold VlS at hSw; (try dsimp only at hSw); go_simp; try with_reducible rfl); (try simp only [List.getElem_toArray, List.getElem_cons_zero, List.getElem_cons_succ, Act.put, List.setIfInBounds_toArray, List.set_cons_zero, List.set_cons_succ])); (refine wpAnyT_take (i := 38) (v := ?_) rfl (by kernel_rfl) (by kernel_rfl) (by kernel_rfl) (by kernel_rfl) (by exact fun _ _ _ h => h) (Or.inl ⟨by kernel_rfl, ?_⟩) hS9 ?_; rotate_left 1; focus (intro w hSw; unfold VlS at hSw; (try dsimp only at hSw); go_simp; try with_reducible rfl); (try simp only [List.getElem_toArray, List.getElem_cons_zero, List.getElem_cons_succ, Act.put, List.setIfInBounds_toArray, List.set_cons_zero, List.set_cons_succ])))
        refine wpAnyT_done (by kernel_rfl) ?_ _
        go_wp2_with fail
        go_meet
        exact ⟨rfl, E9.out⟩
      · have hL0 : L2.length = 0 := by rw [hL2.out, if_neg hG]; rfl
        have hG1 : (G == 0) = false := by simp [hG]
        have hG2 : (G != 0) = true := by simp [hG]
        clear hL2 hcv
        obtain ⟨a0, a1, a2, a3, a4, b0, b1, b2, b3, b4, d0, d1, d2, d3, d4⟩ := hkS.out _ (Below.refl _ _)
        clear hkS r3 r9 r11 r14 hV0 hv
        replace a0 := Later.cell a0
        replace a1 := Later.cell a1
        replace a2 := Later.cell a2
        replace a3 := Later.cell a3
        replace a4 := Later.cell a4
        replace b0 := Later.cell b0
        replace b1 := Later.cell b1
        replace b2 := Later.cell b2
        replace b3 := Later.cell b3
        replace b4 := Later.cell b4
        replace d0 := Later.cell d0
        replace d1 := Later.cell d1
        replace d2 := Later.cell d2
        replace d3 := Later.cell d3
        replace d4 := Later.cell d4
        have q1 := hid (fun (p : Later w6) => haw.out p.x (hT.out _ (D.out.step p.h)))
        have q2 := hid (fun (p : Later w6) => hs3.out _ p.x _ _ (hr3.out.later p.h) (hr5.out.later p.h))
        refine wp_later (by kernel_rfl) (by kernel_rfl) ?_
        repeat (go_big_quiet_step ((first
          | (go_at_call 30; exact later_calls _ (q1.out _))
          | (go_at_call 32; exact later_calls _ (q2.out _)))))
        refine wpQuiet_nil ?_
        rintro _ ⟨q, rfl⟩
        clear a0 a1 a2 a3 a4 b0 b1 b2 b3 b4 d0 d1 d2 d3 d4
        go_wp2_with fail
        go_meet
        exact ⟨rfl, q.h⟩
    case rest =>
      obtain ⟨rfl, hN⟩ := hcut
      have r11' := hid ((hN.block _ (lt_of_block r11.out)).trans r11.out)
      have hr4' := hid (hr4.out.later hN)
      have D' := hid (D.out.step hN)
      clear hN hkS hcv r3 r9 r11 r14 hr3 hr4 hr5 D E2 hp2 gp gg gr gt gd gb haw hV0 hv hL2 hen0
      have a0 := box_at (j := 0) r11'.out rfl
      have a1 := box_at (j := 1) r11'.out rfl
      have a2 := box_at (j := 2) r11'.out rfl
      have a3 := box_at (j := 3) r11'.out rfl
      have a4 := box_at (j := 4) r11'.out rfl
      by_cases hout : z < 0 ∨ (l.length : Int) < z
      · obtain ⟨rfl, rfl, hz0⟩ := ho.out hout
        have hz1 := hid (fun w cs => hzr.out _ hz0 w cs)
        clear hzr hz0 ho gk hs3
        rcases hout with hneg | hbig
        · go_wp2_with fail
          refine (hz1.out _ _ hr4'.out).mono ?_
          rintro e w9 ⟨rfl, h9⟩
          go_wp2_with fail
          go_ret
          exact ⟨rfl, D'.out.step h9⟩
        · have hneg : ¬ z < 0 := by omega
          go_wp2_with fail
          refine (hz1.out _ _ hr4'.out).mono ?_
          rintro e w9 ⟨rfl, h9⟩
          go_wp2_with fail
          go_ret
          exact ⟨rfl, D'.out.step h9⟩
      · have hneg : ¬ z < 0 := fun h => hout (.inl h)
        have hbig : ¬ (l.length : Int) < z := fun h => hout (.inr h)
        clear hout ho hzr
        obtain ⟨p, hp⟩ := Int.eq_ofNat_of_zero_le (Int.not_lt.1 hneg)
        have gk2 := hid (gk.out p (by omega) hp)
        rw [← hp] at gk2
        clear gk hp a0 a1 a2 a3 a4
        go_wp2_with fail
        refine (gk2.out _ D'.out).mono ?_
        rintro e w9 ⟨cs9, rfl, h9, hr9⟩
        obtain ⟨ta2, tc2, ua2, uc2, rfl, _⟩ := hr9.inv
        replace hr9 : Hid (Rd w9 (Now w9) _ _) := hr9.keep (fun b hb => hb.2) (fun _ _ => rfl)
        have r11'' := hid ((h9.block _ (lt_of_block r11'.out)).trans r11'.out)
        have hr4'' := hid (hr4'.out.later h9)
        have D'' := hid (D'.out.step h9)
        have hn := hid (below_new w9 (.cells #[.int .i64 yk, .int .i64 yn, .string ys, .slice ta2 yl.length tc2, .slice ua2 yfv.length uc2] 25))
        have r11n := hid ((hn.out.block _ (lt_of_block r11''.out)).trans r11''.out)
        have a0 := box_at (j := 0) r11n.out rfl
        have a1 := box_at (j := 1) r11n.out rfl
        have a2 := box_at (j := 2) r11n.out rfl
        have a3 := box_at (j := 3) r11n.out rfl
        have a4 := box_at (j := 4) r11n.out rfl
        go_wp2_with fail
        refine (hs3.out _ _ _ _ (hr4''.out.later hn.out) (hr9.out.later hn.out)).mono ?_
        rintro e wa ⟨rfl, ha⟩
        go_wp2_with fail
        go_ret
        exact ⟨by simp, D''.out.step (hn.out.step ha)⟩
theorem values_card (V : PVal) (hm : V.mass ≤ 1073741824) {w : World} {cs : List Value} {bv : Value} {rs : List Int} {z : Int} (hz : (Lit.int .i64 z).wf = true) (hT : Tabs w) (hV : Rd w (Now w) V cs) (hb : NumsAt .u8 w rs bv) (hl : rs.length ≤ 35184372088832) :
    Calls Tryd.prog 4 #[.agg cs.toArray, bv, .int .i64 z] w fun e w' => e = .returned (.bool true) ∧ Below w.heap.size w w' := by
  simp only [Lit.wf, Bool.and_eq_true, decide_eq_true_eq] at hz
  have hz1 : (-9223372036854775808 : Int) ≤ z ∧ z ≤ 9223372036854775807 := hz
  obtain ⟨l, h1, h2⟩ := nums_bytes hb
  exact values_calls V hm z hz1 hT hV h1 (by omega)
end Go.Proofs.YtihcegakghmdfaaDoor
