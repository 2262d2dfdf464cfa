/-
  Walk: the reference's back, joined.
  Walk: the reference's Split.
-/
import Derived.Test.YtihcegakghmdfaaDoorMgKr5
import Derived.Test.YtihcegakghmdfaaDoorMgKr5d
import Derived.Test.YtihcegakghmdfaaDoorMgKr5e
import Derived.Test.YtihcegakghmdfaaDoorMgKr3
import Derived.Test.YtihcegakghmdfaaDoorMgApp
import Derived.BigRegion
namespace Go.Proofs.YtihcegakghmdfaaDoor
open Go.RowKit Go.Proofs
set_option maxRecDepth 100000 in
set_option maxHeartbeats 2000000 in
theorem rback5_low {l : List UInt8} {bv : Value} (_hl : l.length ≤ 17179869184) (d : Nat) {w : World} (p : Nat) (hb : BytesAt w (Now w) l bv) (hp : p ≤ l.length) (R : Option (PVal × Nat)) (hR : R = none) (hlow : ∀ k, l[p]? = some k → k.toNat < 10 ∨ 60 < k.toNat ∨ k.toNat % 10 ≠ 0) :
    Calls Tryd.prog 65 #[bv, .int .i64 p, .int .i64 d] w (Back5 R p w) := by
  have hb0 := hid hb
  replace hR := hid hR
  obtain ⟨a, cap, rfl, hc1, hc2, _⟩ := hb
  obtain ⟨W2, hW2⟩ : ∃ W2, W2 = (w.alloc (.cells #[.int .i64 0, .int .i64 0, .string ⟨#[]⟩, .slice none 0 0, .slice none 0 0] 25)).alloc (.cells #[.int .i64 0, .int .i64 0, .string ⟨#[]⟩, .slice none 0 0, .slice none 0 0] 25) := ⟨_, rfl⟩
  have D2 : Hid (Below w.heap.size w W2) := by show Below _ _ _; rw [hW2]; exact (below_new _ _).step (below_new _ _)
  have q6 : Hid (W2.heap[w.heap.size]? = some (.cells #[.int .i64 0, .int .i64 0, .string ⟨#[]⟩, .slice none 0 0, .slice none 0 0] 25 (0, 0))) := by rw [hW2]; exact al_old (al_at rfl)
  have q9 : Hid (W2.heap[w.heap.size + 1]? = some (.cells #[.int .i64 0, .int .i64 0, .string ⟨#[]⟩, .slice none 0 0, .slice none 0 0] 25 (0, 0))) := by rw [hW2]; exact al_at (by simp)
  have hkn : Hid (∀ k : Int, KB w W2.heap.size (W2.alloc (.cells #[.int .i64 k, .int .i64 0, .string ⟨#[]⟩, .slice none 0 0, .slice none 0 0] 25)) #[.int .i64 k, .int .i64 0, .string ⟨#[]⟩, .slice none 0 0, .slice none 0 0]) := fun k =>
    ⟨by rw [hW2]; simp, al_old q6.out, al_old q9.out, al_at rfl, D2.out.step (below_new _ _)⟩
  have hsz2 : Hid (W2.heap.size = w.heap.size + 1 + 1) := by show _ = _; rw [hW2]; simp
  by_cases hend : p = l.length
  · have hno := hR
    have i1 : (l.length : Int) ≤ (p : Int) := by omega
    have g0 := box_at (j := 0) q6.out rfl
    have g1 := box_at (j := 1) q6.out rfl
    have g2 := box_at (j := 2) q6.out rfl
    have g3 := box_at (j := 3) q6.out rfl
    have g4 := box_at (j := 4) q6.out rfl
    have gf := box_free q6.out
    have h0 := box_at (j := 0) q9.out rfl
    have h1 := box_at (j := 1) q9.out rfl
    have h2 := box_at (j := 2) q9.out rfl
    have h3 := box_at (j := 3) q9.out rfl
    have h4 := box_at (j := 4) q9.out rfl
    go_enter Tryd.func65, Tryd.ntmps65
    go_upto_region 2 with fail
    rw [← hW2]
    clear hW2
    go_wp2_with fail
    have hbz := hid (set5_below D2.out (Nat.le_refl _) (.int .i64 0) (.int .i64 0) (.string ⟨#[]⟩) (.slice none 0 0) (.slice none 0 0))
    have rz := hid (set5_box (u0 := (.int .i64 0)) (u1 := (.int .i64 0)) (u2 := (.string ⟨#[]⟩)) (u3 := (.slice none 0 0)) (u4 := (.slice none 0 0)) q6.out)
    unfold set5 at hbz rz
    clear g0 g1 g2 g3 g4 gf h0 h1 h2 h3 h4 q6 q9 hkn
    generalize ((((W2.setCell ⟨w.heap.size, 0, none⟩ (.int .i64 0)).setCell ⟨w.heap.size, 1, none⟩ (.int .i64 0)).setCell ⟨w.heap.size, 2, none⟩ (.string ⟨#[]⟩)).setCell ⟨w.heap.size, 3, none⟩ (.slice none 0 0)).setCell ⟨w.heap.size, 4, none⟩ (.slice none 0 0) = w9 at *
    have z0 := box_at (j := 0) rz.out rfl
    have z1 := box_at (j := 1) rz.out rfl
    have z2 := box_at (j := 2) rz.out rfl
    have z3 := box_at (j := 3) rz.out rfl
    have z4 := box_at (j := 4) rz.out rfl
    refine ⟨rfl, .tuple #[.agg #[.int .i64 0, .int .i64 0, .string ⟨#[]⟩, .slice none 0 0, .slice none 0 0], .int .i64 0, .bool false], by simp [results, Tryd.results65, go_sem, z0, z1, z2, z3, z4], ?_⟩
    exact back5_none hno.out hbz.out (V := zeroK) (cs := [.int .i64 0, .int .i64 0, .string ⟨#[]⟩, .slice none 0 0, .slice none 0 0]) rd_zeroK
  have hlt : p < l.length := by omega
  obtain ⟨b, off, rfl, hbS, hcell⟩ := bytes_cells hb0.out (fun h => by rw [h] at hlt; simp at hlt)
  have hcW : Hid (∀ (w' : World), Below w.heap.size w w' → ∀ (j : Nat) (c : UInt8), l[j]? = some c → w'.cell? ⟨b, off + j, none⟩ = some (.int .u8 c.toNat)) := fun w' h j c hc => (h.cell (p := ⟨b, _, none⟩) hbS).trans (hcell j c hc)
  obtain ⟨k, hk⟩ : ∃ k, l[p]? = some k := ⟨_, List.getElem?_eq_getElem hlt⟩
  have hdr : l.drop p = k :: l.drop (p + 1) := by rw [List.drop_eq_getElem_cons hlt, (List.getElem?_eq_some_iff.1 hk).2]
  have hcx := hcW.out W2 D2.out p k hk
  have hk8 := k.toNat_lt
  have i0 : (0 : Int) ≤ (p : Int) := by omega
  have i1 : (p : Int) < (l.length : Int) := by omega
  have i2 : ¬ (l.length : Int) ≤ (p : Int) := by omega
  have i2' : decide ((l.length : Int) ≤ (p : Int)) = false := decide_eq_false i2
  obtain ⟨z, hz⟩ : ∃ z, z = k.toNat := ⟨_, rfl⟩
  rw [← hz] at hcx hk8
  have e5 : IntKind.i64.wrap ((p : Int) + 1) = ((p + 1 : Nat) : Int) := by rw [IntWalk.i64_in _ (by omega)]; omega
  have ez : IntKind.i64.wrap (z : Int) = z := IntWalk.i64_in _ (by omega)
  have hbad := hlow k hk
  rw [← hz] at hbad
  clear hcell hend hdr hk hlow
  have hno := hR
  by_cases hb1 : z < 10
  · have j1 : decide ((z : Int) < 10) = true := decide_eq_true (by omega)
    have j1' : (z : Int) < 10 := by omega
    have g0 := box_at (j := 0) q6.out rfl
    have g1 := box_at (j := 1) q6.out rfl
    have g2 := box_at (j := 2) q6.out rfl
    have g3 := box_at (j := 3) q6.out rfl
    have g4 := box_at (j := 4) q6.out rfl
    have gf := box_free q6.out
    have h0 := box_at (j := 0) q9.out rfl
    have h1 := box_at (j := 1) q9.out rfl
    have h2 := box_at (j := 2) q9.out rfl
    have h3 := box_at (j := 3) q9.out rfl
    have h4 := box_at (j := 4) q9.out rfl
    go_enter Tryd.func65, Tryd.ntmps65
    go_upto_region 2 with fail
    rw [← hW2]
    clear hW2
    go_wp2_with fail
    have hbz := hid (set5_below D2.out (Nat.le_refl _) (.int .i64 0) (.int .i64 0) (.string ⟨#[]⟩) (.slice none 0 0) (.slice none 0 0))
    have rz := hid (set5_box (u0 := (.int .i64 0)) (u1 := (.int .i64 0)) (u2 := (.string ⟨#[]⟩)) (u3 := (.slice none 0 0)) (u4 := (.slice none 0 0)) q6.out)
    unfold set5 at hbz rz
    clear g0 g1 g2 g3 g4 gf h0 h1 h2 h3 h4 q6 q9 hkn
    generalize ((((W2.setCell ⟨w.heap.size, 0, none⟩ (.int .i64 0)).setCell ⟨w.heap.size, 1, none⟩ (.int .i64 0)).setCell ⟨w.heap.size, 2, none⟩ (.string ⟨#[]⟩)).setCell ⟨w.heap.size, 3, none⟩ (.slice none 0 0)).setCell ⟨w.heap.size, 4, none⟩ (.slice none 0 0) = w9 at *
    have z0 := box_at (j := 0) rz.out rfl
    have z1 := box_at (j := 1) rz.out rfl
    have z2 := box_at (j := 2) rz.out rfl
    have z3 := box_at (j := 3) rz.out rfl
    have z4 := box_at (j := 4) rz.out rfl
    refine ⟨rfl, .tuple #[.agg #[.int .i64 0, .int .i64 0, .string ⟨#[]⟩, .slice none 0 0, .slice none 0 0], .int .i64 0, .bool false], by simp [results, Tryd.results65, go_sem, z0, z1, z2, z3, z4], ?_⟩
    exact back5_none hno.out hbz.out (V := zeroK) (cs := [.int .i64 0, .int .i64 0, .string ⟨#[]⟩, .slice none 0 0, .slice none 0 0]) rd_zeroK
  by_cases hb2 : 60 < z
  · have j1 : decide ((z : Int) < 10) = false := decide_eq_false (by omega)
    have j1' : ¬ (z : Int) < 10 := by omega
    have j2 : decide (60 < (z : Int)) = true := decide_eq_true (by omega)
    have j2' : 60 < (z : Int) := by omega
    have g0 := box_at (j := 0) q6.out rfl
    have g1 := box_at (j := 1) q6.out rfl
    have g2 := box_at (j := 2) q6.out rfl
    have g3 := box_at (j := 3) q6.out rfl
    have g4 := box_at (j := 4) q6.out rfl
    have gf := box_free q6.out
    have h0 := box_at (j := 0) q9.out rfl
    have h1 := box_at (j := 1) q9.out rfl
    have h2 := box_at (j := 2) q9.out rfl
    have h3 := box_at (j := 3) q9.out rfl
    have h4 := box_at (j := 4) q9.out rfl
    go_enter Tryd.func65, Tryd.ntmps65
    go_upto_region 2 with fail
    rw [← hW2]
    clear hW2
    go_wp2_with fail
    have hbz := hid (set5_below D2.out (Nat.le_refl _) (.int .i64 0) (.int .i64 0) (.string ⟨#[]⟩) (.slice none 0 0) (.slice none 0 0))
    have rz := hid (set5_box (u0 := (.int .i64 0)) (u1 := (.int .i64 0)) (u2 := (.string ⟨#[]⟩)) (u3 := (.slice none 0 0)) (u4 := (.slice none 0 0)) q6.out)
    unfold set5 at hbz rz
    clear g0 g1 g2 g3 g4 gf h0 h1 h2 h3 h4 q6 q9 hkn
    generalize ((((W2.setCell ⟨w.heap.size, 0, none⟩ (.int .i64 0)).setCell ⟨w.heap.size, 1, none⟩ (.int .i64 0)).setCell ⟨w.heap.size, 2, none⟩ (.string ⟨#[]⟩)).setCell ⟨w.heap.size, 3, none⟩ (.slice none 0 0)).setCell ⟨w.heap.size, 4, none⟩ (.slice none 0 0) = w9 at *
    have z0 := box_at (j := 0) rz.out rfl
    have z1 := box_at (j := 1) rz.out rfl
    have z2 := box_at (j := 2) rz.out rfl
    have z3 := box_at (j := 3) rz.out rfl
    have z4 := box_at (j := 4) rz.out rfl
    refine ⟨rfl, .tuple #[.agg #[.int .i64 0, .int .i64 0, .string ⟨#[]⟩, .slice none 0 0, .slice none 0 0], .int .i64 0, .bool false], by simp [results, Tryd.results65, go_sem, z0, z1, z2, z3, z4], ?_⟩
    exact back5_none hno.out hbz.out (V := zeroK) (cs := [.int .i64 0, .int .i64 0, .string ⟨#[]⟩, .slice none 0 0, .slice none 0 0]) rd_zeroK
  · have j1 : decide ((z : Int) < 10) = false := decide_eq_false (by omega)
    have j1' : ¬ (z : Int) < 10 := by omega
    have j2 : decide (60 < (z : Int)) = false := decide_eq_false (by omega)
    have j2' : ¬ 60 < (z : Int) := by omega
    have j4 : Int.tmod (z : Int) 10 = ((z % 10 : Nat) : Int) := by rw [Int.tmod_eq_emod_of_nonneg (by omega)]; omega
    have j5 : IntKind.u8.wrap ((z % 10 : Nat) : Int) = ((z % 10 : Nat) : Int) := by rw [IntKind.wrap_u8]; omega
    have j6 : (((z % 10 : Nat) : Int) != 0) = true := by have : z % 10 ≠ 0 := by omega
                                                         simp; omega
    have j7 : ((z : Int) % 10 != 0) = true := by have : z % 10 ≠ 0 := by omega
                                                 simp; omega
    have g0 := box_at (j := 0) q6.out rfl
    have g1 := box_at (j := 1) q6.out rfl
    have g2 := box_at (j := 2) q6.out rfl
    have g3 := box_at (j := 3) q6.out rfl
    have g4 := box_at (j := 4) q6.out rfl
    have gf := box_free q6.out
    have h0 := box_at (j := 0) q9.out rfl
    have h1 := box_at (j := 1) q9.out rfl
    have h2 := box_at (j := 2) q9.out rfl
    have h3 := box_at (j := 3) q9.out rfl
    have h4 := box_at (j := 4) q9.out rfl
    go_enter Tryd.func65, Tryd.ntmps65
    go_upto_region 2 with fail
    rw [← hW2]
    clear hW2
    go_wp2_with fail
    have hbz := hid (set5_below D2.out (Nat.le_refl _) (.int .i64 0) (.int .i64 0) (.string ⟨#[]⟩) (.slice none 0 0) (.slice none 0 0))
    have rz := hid (set5_box (u0 := (.int .i64 0)) (u1 := (.int .i64 0)) (u2 := (.string ⟨#[]⟩)) (u3 := (.slice none 0 0)) (u4 := (.slice none 0 0)) q6.out)
    unfold set5 at hbz rz
    clear g0 g1 g2 g3 g4 gf h0 h1 h2 h3 h4 q6 q9 hkn
    generalize ((((W2.setCell ⟨w.heap.size, 0, none⟩ (.int .i64 0)).setCell ⟨w.heap.size, 1, none⟩ (.int .i64 0)).setCell ⟨w.heap.size, 2, none⟩ (.string ⟨#[]⟩)).setCell ⟨w.heap.size, 3, none⟩ (.slice none 0 0)).setCell ⟨w.heap.size, 4, none⟩ (.slice none 0 0) = w9 at *
    have z0 := box_at (j := 0) rz.out rfl
    have z1 := box_at (j := 1) rz.out rfl
    have z2 := box_at (j := 2) rz.out rfl
    have z3 := box_at (j := 3) rz.out rfl
    have z4 := box_at (j := 4) rz.out rfl
    refine ⟨rfl, .tuple #[.agg #[.int .i64 0, .int .i64 0, .string ⟨#[]⟩, .slice none 0 0, .slice none 0 0], .int .i64 0, .bool false], by simp [results, Tryd.results65, go_sem, z0, z1, z2, z3, z4], ?_⟩
    exact back5_none hno.out hbz.out (V := zeroK) (cs := [.int .i64 0, .int .i64 0, .string ⟨#[]⟩, .slice none 0 0, .slice none 0 0]) rd_zeroK
set_option maxRecDepth 100000 in
set_option maxHeartbeats 2000000 in
theorem rback5_deep {l : List UInt8} {bv : Value} (hl : l.length ≤ 17179869184) (d : Nat) (hd : 9 < d) (hd2 : d ≤ 100) {w : World} (p : Nat) (hb : BytesAt w (Now w) l bv) (_hp : p ≤ l.length) (R : Option (PVal × Nat)) (hR : R = none) (k : UInt8) (hk : l[p]? = some k) (hz : 10 ≤ k.toNat ∧ k.toNat ≤ 60 ∧ k.toNat % 10 = 0) :
    Calls Tryd.prog 65 #[bv, .int .i64 p, .int .i64 d] w (Back5 R p w) := by
  have hb0 := hid hb
  replace hR := hid hR
  obtain ⟨a, cap, rfl, hc1, hc2, _⟩ := hb
  have d9 : decide (9 < (d : Int)) = true := decide_eq_true (by omega)
  have d9' : 9 < (d : Int) := by omega
  obtain ⟨W2, hW2⟩ : ∃ W2, W2 = (w.alloc (.cells #[.int .i64 0, .int .i64 0, .string ⟨#[]⟩, .slice none 0 0, .slice none 0 0] 25)).alloc (.cells #[.int .i64 0, .int .i64 0, .string ⟨#[]⟩, .slice none 0 0, .slice none 0 0] 25) := ⟨_, rfl⟩
  have D2 : Hid (Below w.heap.size w W2) := by show Below _ _ _; rw [hW2]; exact (below_new _ _).step (below_new _ _)
  have q6 : Hid (W2.heap[w.heap.size]? = some (.cells #[.int .i64 0, .int .i64 0, .string ⟨#[]⟩, .slice none 0 0, .slice none 0 0] 25 (0, 0))) := by rw [hW2]; exact al_old (al_at rfl)
  have q9 : Hid (W2.heap[w.heap.size + 1]? = some (.cells #[.int .i64 0, .int .i64 0, .string ⟨#[]⟩, .slice none 0 0, .slice none 0 0] 25 (0, 0))) := by rw [hW2]; exact al_at (by simp)
  have hkn : Hid (∀ k : Int, KB w W2.heap.size (W2.alloc (.cells #[.int .i64 k, .int .i64 0, .string ⟨#[]⟩, .slice none 0 0, .slice none 0 0] 25)) #[.int .i64 k, .int .i64 0, .string ⟨#[]⟩, .slice none 0 0, .slice none 0 0]) := fun k =>
    ⟨by rw [hW2]; simp, al_old q6.out, al_old q9.out, al_at rfl, D2.out.step (below_new _ _)⟩
  have hsz2 : Hid (W2.heap.size = w.heap.size + 1 + 1) := by show _ = _; rw [hW2]; simp
  have hlt : p < l.length := (List.getElem?_eq_some_iff.1 hk).1
  obtain ⟨b, off, rfl, hbS, hcell⟩ := bytes_cells hb0.out (fun h => by rw [h] at hlt; simp at hlt)
  have hcW : Hid (∀ (w' : World), Below w.heap.size w w' → ∀ (j : Nat) (c : UInt8), l[j]? = some c → w'.cell? ⟨b, off + j, none⟩ = some (.int .u8 c.toNat)) := fun w' h j c hc => (h.cell (p := ⟨b, _, none⟩) hbS).trans (hcell j c hc)
  have hdr : l.drop p = k :: l.drop (p + 1) := by rw [List.drop_eq_getElem_cons hlt, (List.getElem?_eq_some_iff.1 hk).2]
  have hcx := hcW.out W2 D2.out p k hk
  have i0 : (0 : Int) ≤ (p : Int) := by omega
  have i1 : (p : Int) < (l.length : Int) := by omega
  have i2 : ¬ (l.length : Int) ≤ (p : Int) := by omega
  have i2' : decide ((l.length : Int) ≤ (p : Int)) = false := decide_eq_false i2
  obtain ⟨z, hz0⟩ : ∃ z, z = k.toNat := ⟨_, rfl⟩
  rw [← hz0] at hcx
  have e5 : IntKind.i64.wrap ((p : Int) + 1) = ((p + 1 : Nat) : Int) := by rw [IntWalk.i64_in _ (by omega)]; omega
  rw [← hz0] at hz
  have ez : IntKind.i64.wrap (z : Int) = z := IntWalk.i64_in _ (by omega)
  have j1 : decide ((z : Int) < 10) = false := decide_eq_false (by omega)
  have j1' : ¬ (z : Int) < 10 := by omega
  have j2 : decide (60 < (z : Int)) = false := decide_eq_false (by omega)
  have j2' : ¬ 60 < (z : Int) := by omega
  have j4 : Int.tmod (z : Int) 10 = 0 := by rw [Int.tmod_eq_emod_of_nonneg (by omega)]; omega
  have j4' : (z : Int) % 10 = 0 := by omega
  clear hcell hdr hk hz0 hz
  have hno := hR
  have g0 := box_at (j := 0) q6.out rfl
  have g1 := box_at (j := 1) q6.out rfl
  have g2 := box_at (j := 2) q6.out rfl
  have g3 := box_at (j := 3) q6.out rfl
  have g4 := box_at (j := 4) q6.out rfl
  have gf := box_free q6.out
  have h0 := box_at (j := 0) q9.out rfl
  have h1 := box_at (j := 1) q9.out rfl
  have h2 := box_at (j := 2) q9.out rfl
  have h3 := box_at (j := 3) q9.out rfl
  have h4 := box_at (j := 4) q9.out rfl
  go_enter Tryd.func65, Tryd.ntmps65
  go_upto_region 2 with fail
  rw [← hW2]
  clear hW2
  go_wp2_with fail
  have hbz := hid (set5_below D2.out (Nat.le_refl _) (.int .i64 0) (.int .i64 0) (.string ⟨#[]⟩) (.slice none 0 0) (.slice none 0 0))
  have rz := hid (set5_box (u0 := (.int .i64 0)) (u1 := (.int .i64 0)) (u2 := (.string ⟨#[]⟩)) (u3 := (.slice none 0 0)) (u4 := (.slice none 0 0)) q6.out)
  unfold set5 at hbz rz
  clear g0 g1 g2 g3 g4 gf h0 h1 h2 h3 h4 q6 q9 hkn
  generalize ((((W2.setCell ⟨w.heap.size, 0, none⟩ (.int .i64 0)).setCell ⟨w.heap.size, 1, none⟩ (.int .i64 0)).setCell ⟨w.heap.size, 2, none⟩ (.string ⟨#[]⟩)).setCell ⟨w.heap.size, 3, none⟩ (.slice none 0 0)).setCell ⟨w.heap.size, 4, none⟩ (.slice none 0 0) = w9 at *
  have z0 := box_at (j := 0) rz.out rfl
  have z1 := box_at (j := 1) rz.out rfl
  have z2 := box_at (j := 2) rz.out rfl
  have z3 := box_at (j := 3) rz.out rfl
  have z4 := box_at (j := 4) rz.out rfl
  refine ⟨rfl, .tuple #[.agg #[.int .i64 0, .int .i64 0, .string ⟨#[]⟩, .slice none 0 0, .slice none 0 0], .int .i64 0, .bool false], by simp [results, Tryd.results65, go_sem, z0, z1, z2, z3, z4], ?_⟩
  exact back5_none hno.out hbz.out (V := zeroK) (cs := [.int .i64 0, .int .i64 0, .string ⟨#[]⟩, .slice none 0 0, .slice none 0 0]) rd_zeroK

/-- back, at most so deep. -/
theorem rback5_calls {l : List UInt8} {bv : Value} (hl : l.length ≤ 17179869184) : ∀ (m : Nat), m ≤ 10 → ∀ (w : World) (p : Nat), BytesAt w (Now w) l bv → p ≤ l.length →
    Calls Tryd.prog 65 #[bv, .int .i64 p, .int .i64 ((10 - m : Nat) : Int)] w (Back5 (keyR true m (l.drop p)) p w)
  | 0, _, w, p, hb, hp => by
    by_cases hlow : ∀ k, l[p]? = some k → k.toNat < 10 ∨ 60 < k.toNat ∨ k.toNat % 10 ≠ 0
    · exact rback5_low hl 10 p hb hp _ rfl hlow
    · have : ∃ k, l[p]? = some k ∧ (10 ≤ k.toNat ∧ k.toNat ≤ 60 ∧ k.toNat % 10 = 0) := by
        apply Classical.byContradiction
        intro h
        exact hlow fun k hk => Classical.byContradiction fun h2 => h ⟨k, hk, by omega⟩
      obtain ⟨k, hk, hz⟩ := this
      exact rback5_deep hl 10 (by omega) (by omega) p hb hp _ rfl k hk hz
  | m + 1, hm, w, p, hb, hp => by
    have ih : ∀ (w : World) (p : Nat), BytesAt w (Now w) l bv → p ≤ l.length → Calls Tryd.prog 65 #[bv, .int .i64 p, .int .i64 (((10 - (m + 1) : Nat) : Int) + 1)] w (Back5 (keyR true m (l.drop p)) p w) := fun w p hb hp => by
      have := rback5_calls hl m (by omega) w p hb hp
      rwa [show ((10 - (m + 1) : Nat) : Int) + 1 = ((10 - m : Nat) : Int) by omega]
    have hpR : ∀ (L : List UInt8) (V : PVal) (c : Nat), keyR true m L = some (V, c) → 1 ≤ c ∧ c ≤ L.length := fun L V c h => ⟨(keyR_le true m L V c h).2.2, (keyR_le true m L V c h).2.1⟩
    by_cases hlow : ∀ k, l[p]? = some k → k.toNat < 10 ∨ 60 < k.toNat ∨ k.toNat % 10 ≠ 0
    · refine rback5_low hl _ p hb hp _ ?_ hlow
      cases hk : l[p]? with
      | none => rw [List.drop_eq_nil_of_le (by simpa using hk)]; rfl
      | some k =>
        have hlt : p < l.length := (List.getElem?_eq_some_iff.1 hk).1
        rw [List.drop_eq_getElem_cons hlt, (List.getElem?_eq_some_iff.1 hk).2]
        exact headS_0 (hlow k hk)
    · have : ∃ k, l[p]? = some k ∧ (10 ≤ k.toNat ∧ k.toNat ≤ 60 ∧ k.toNat % 10 = 0) := by
        apply Classical.byContradiction
        intro h
        exact hlow fun k hk => Classical.byContradiction fun h2 => h ⟨k, hk, by omega⟩
      obtain ⟨k, hk, hz⟩ := this
      have h6 : 10 = k.toNat ∨ 20 = k.toNat ∨ 30 = k.toNat ∨ 40 = k.toNat ∨ 50 = k.toNat ∨ 60 = k.toNat := by omega
      rcases h6 with h | h | h | h | h | h
      · exact rback5_nul hl _ (by omega) (keyR true m) p hb hp _ rfl k hk h
      · exact rback5_bool hl _ (by omega) (keyR true m) p hb hp _ rfl k hk h
      · exact rback5_num hl _ (by omega) (keyR true m) p hb hp _ rfl k hk h
      · exact rback5_txt hl _ (by omega) (keyR true m) p hb hp _ rfl k hk h
      · exact rback5_list hl _ (by omega) (keyR true m) ih hpR p hb hp _ rfl k hk h
      · exact rback5_fields hl _ (by omega) (keyR true m) ih hpR p hb hp _ rfl k hk h
end Go.Proofs.YtihcegakghmdfaaDoor

namespace Go.Proofs.YtihcegakghmdfaaDoor
open Go.RowKit Go.Proofs
theorem bytes_mid {w : World} {S : Nat → Prop} {l : List UInt8} {b off n cap : Nat} (h : BytesAt w S l (.slice (some ⟨b, off, none⟩) n cap)) {c k : Nat} (hk : c + k ≤ l.length) : BytesAt w S ((l.drop c).take k) (.slice (some ⟨b, off + c, none⟩) k (cap - c)) := by
  obtain ⟨a', c', e, h1, h2, h3⟩ := h
  injection e with e1 e2 e3
  subst e1 e2 e3
  have hlen : ((l.drop c).take k).length = k := by rw [List.length_take, List.length_drop]; omega
  refine ⟨_, _, by rw [hlen], by rw [hlen]; omega, by omega, ?_⟩
  rcases h3 with h3 | ⟨b', off', e, hS, h4⟩
  · subst h3; exact .inl (by simp)
  · injection e with e; injection e with e1 e2; subst e1 e2
    refine .inr ⟨_, _, rfl, hS, fun j d hd => ?_⟩
    rw [List.getElem?_take] at hd
    split at hd
    · rw [List.getElem?_drop] at hd
      rw [Nat.add_assoc]
      exact h4 _ _ hd
    · cases hd
/-- What the region of Split reads. -/
def RsS (g : Nat) (c0 c1 c2 c3 c4 v : Value) (t : ByteArray) (x : World) : Prop :=
  x.cell? ⟨g, 0, none⟩ = some c0 ∧ x.cell? ⟨g, 1, none⟩ = some c1 ∧ x.cell? ⟨g, 2, none⟩ = some c2 ∧ x.cell? ⟨g, 3, none⟩ = some c3 ∧ x.cell? ⟨g, 4, none⟩ = some c4 ∧ (convert 26 9 v).run Tryd.prog x = .ok (.string t) x
theorem rsS_mk {w x : World} {g : Nat} {v0 v1 v2 v3 v4 v : Value} {u : TypeId} {t : ByteArray} (hg : w.heap[g]? = some (.cells #[v0, v1, v2, v3, v4] u (0, 0))) (h : Below w.heap.size w x) (hv : (convert 26 9 v).run Tryd.prog x = .ok (.string t) x) : RsS g v0 v1 v2 v3 v4 v t x := by
  have e := (h.block _ (lt_of_block hg)).trans hg
  exact ⟨box_at (j := 0) e rfl, box_at (j := 1) e rfl, box_at (j := 2) e rfl, box_at (j := 3) e rfl, box_at (j := 4) e rfl, hv⟩
/-- What Split tells. -/
def Split5 (R : Option (List PVal)) (w : World) (e : Ending) (w' : World) : Prop := Below w.heap.size w w' ∧ match R with
  | some xs => ∃ v, e = .returned (.tuple #[v, .bool true]) ∧ RdL w' (Now w') xs v
  | none => e = .returned (.tuple #[.slice none 0 0, .bool false])
theorem split5_no {R : Option (List PVal)} {w w' : World} (hR : R = none) (hb : Below w.heap.size w w') : Split5 R w (.returned (.tuple #[.slice none 0 0, .bool false])) w' := by
  subst hR; exact ⟨hb, rfl⟩
theorem split5_yes {R : Option (List PVal)} {xs : List PVal} {v : Value} {w w' : World} (hR : R = some xs) (hb : Below w.heap.size w w') (hr : RdL w' (Now w') xs v) : Split5 R w (.returned (.tuple #[v, .bool true])) w' := by
  subst hR; exact ⟨hb, v, rfl, hr⟩
section
variable {R : Option (List PVal)} {xs : List PVal} {m : Nat} {l : List UInt8} {x : PVal} {k : Nat}
theorem goP_none (h : R = (splitR (m + 1) l).map (xs ++ ·)) (hk : keyR true 10 l = none) : R = none := by
  rw [h, splitR, hk]; rfl
theorem goP_bad (h : R = (splitR (m + 1) l).map (xs ++ ·)) (hk : keyR true 10 l = some (x, k)) (hb : x.good ≠ 0 ∨ x.key ≠ l.take k) : R = none := by
  rw [h, splitR, hk]; simp only; rw [if_pos hb]; rfl
theorem goP_step (h : R = (splitR (m + 1) l).map (xs ++ ·)) (hk : keyR true 10 l = some (x, k)) (h1 : x.good = 0) (h2 : x.key = l.take k) : R = (splitR m (l.drop k)).map ((xs ++ [x]) ++ ·) := by
  rw [h, splitR, hk]; simp only; rw [if_neg (by simp [h1, h2]), Option.map_map]
  congr 1
  funext ys
  simp
theorem goP_end (h : R = (splitR 0 l).map (xs ++ ·)) (hl : l = []) : R = some xs := by
  rw [h, splitR, if_pos hl]; simp
theorem goP_more (h : R = (splitR 0 l).map (xs ++ ·)) (hl : l ≠ []) : R = none := by
  rw [h, splitR, if_neg hl]; rfl
theorem goP_nil (h : R = (splitR (m + 1) []).map (xs ++ ·)) : R = none := goP_none h rfl
end

set_option maxRecDepth 100000 in
set_option maxHeartbeats 4000000 in
theorem rsplit5_calls {w : World} {bv : Value} {l : List UInt8} (hb : BytesAt w (Now w) l bv) (hl : l.length ≤ 33554432) (n : Nat) (hn : n ≤ 17179869184) :
    Calls Tryd.prog 21 #[bv, .int .i64 n] w (Split5 (splitR n l) w) := by
  obtain ⟨R, hR⟩ : ∃ R, R = splitR n l := ⟨_, rfl⟩
  rw [← hR]
  have hst : Hid (R = (splitR (n - 0) (l.drop 0)).map ([] ++ ·)) := by show _ = _; rw [hR]; simp
  clear hR
  have hb0 := hid hb
  have hbk := hid (fun (w : World) (p : Nat) (hb : BytesAt w (Now w) l bv) (hp : p ≤ l.length) => rback5_calls (by omega : l.length ≤ 17179869184) 10 (Nat.le_refl _) w p hb hp)
  have hgd := hid (fun (V : PVal) (hm : V.mass ≤ 1073741824) (w : World) (cs : List Value) (hV : Rd w (Now w) V cs) => rgood_mass V hm w cs hV)
  have hof := hid (fun (V : PVal) (w : World) (cs : List Value) (h1 : V.key.length ≤ 17592186044416) (h2 : V.all formedB = true) (hV : Rd w (Now w) V cs) => rof5_calls V w cs h1 h2 hV)
  obtain ⟨i0, hi, hz0, hz1, hz2⟩ := info_parts info52
  obtain ⟨a, cap, rfl, hc1, hc2, _⟩ := hb
  go_enter Tryd.func21, Tryd.ntmps21
  go_wp2_with fail
  go_loopg [6, 7, 8] n (fun gh s6 s7 s8 wr => ∃ (j c : Nat) (xs : List PVal) (vs : Value), gh + j = n ∧ xs.length ≤ c ∧ c ≤ l.length ∧ vs = s6 ∧ s7 = .int .i64 c ∧ s8 = .int .i64 j ∧ Hid (R = (splitR (n - j) (l.drop c)).map (xs ++ ·)) ∧ Hid (Below w.heap.size w wr) ∧ Hid (OwnG Rd 5 w.heap.size w.heap.size 25 wr xs vs))
  case atStart => exact ⟨0, 0, [], _, by omega, by simp, by omega, rfl, rfl, rfl, hst, Below.refl _ _, OwnG.nil _⟩
  case round =>
    clear hst
    obtain ⟨j, c, xs, vs, hj, hxl, hcl, rfl, rfl, rfl, hst, hlow, hown⟩ := hrel
    replace hxl := hid hxl
    by_cases hlt : j < n
    · rw [show n - j = (n - (j + 1)) + 1 by omega] at hst
      have hc := hbk.out wr c (hb0.out.later hlow.out) hcl
      rw [Nat.sub_self] at hc
      cases hp : keyR true 10 (l.drop c) with
      | none =>
        rw [hp] at hc
        have hno := hid (goP_none hst.out hp)
        replace hc := hid hc
        clear hp hst
        go_wp2_with fail
        refine hc.out.mono ?_
        rintro e w6 ⟨h6, V, cs6, y, rfl, hr6⟩
        obtain ⟨xk, xn, xt, xl, xfn, xfv⟩ := V
        obtain ⟨ya, yc, za, zc, rfl, _⟩ := hr6.inv
        have D6 := hid (hlow.out.step (h6.step (below_new w6 (.cells #[.int .i64 xk, .int .i64 xn, .string xt, .slice ya xl.length yc, .slice za xfv.length zc] 25))))
        clear hr6
        go_upto_region 7 with fail
        go_region
        all_goals go_wp2_with fail
        all_goals go_returns
        all_goals exact split5_no hno.out D6.out.drew
      | some q =>
        obtain ⟨V, k⟩ := q
        have hle := keyR_le true _ _ _ _ hp
        rw [List.length_drop] at hle
        have hkl := keyR_len true _ _ _ _ hp
        rw [hp] at hc
        replace hc := hid hc
        have hG := hid (fun w cs h => hgd.out V (by omega) w cs h)
        have hO := fun h1 => hid (fun w cs h => hof.out V w cs (by omega) h1 h)
        have hbad := fun h => goP_bad hst.out hp h
        have hstep := fun h1 h2 => goP_step hst.out hp h1 h2
        obtain ⟨T, hT⟩ : ∃ T, T = (l.drop c).take k := ⟨_, rfl⟩
        have hTl : T.length = k := by rw [hT, List.length_take, List.length_drop]; omega
        rw [← hT] at hbad hstep
        obtain ⟨b, off, rfl, _⟩ := bytes_cells hb0.out (fun h => by rw [h] at hle; simp at hle; omega)
        have hmid : Hid (∀ x, Below w.heap.size w x → (convert 26 9 (.slice (some ⟨b, off + c, none⟩) k (cap - c))).run Tryd.prog x = .ok (.string ⟨T.toArray⟩) x) := fun x h => by
          have h1 := bytes_mid (hb0.out.later h) (c := c) (k := k) (by omega)
          rw [← hT] at h1
          rw [← hTl] at h1 ⊢
          exact conv_at h1
        obtain ⟨g0, hg0⟩ : ∃ g, g = V.good := ⟨_, rfl⟩
        obtain ⟨K, hK⟩ : ∃ K, K = V.key := ⟨_, rfl⟩
        have hfm : g0 = 0 → V.all formedB = true := fun h => (good_form (by rw [← hg0]; exact h)).1
        rw [← hg0] at hG hbad hstep
        rw [← hK] at hO hbad hstep hkl
        replace hfm := hid hfm
        replace hbad := hid hbad
        replace hstep := hid hstep
        replace hO := hid hO
        have hkk := hid hle
        have hct := hid hcl
        clear hg0 hK hp hT hTl hst hkl
        have s1 : (0 : Int) ≤ (c : Int) := by omega
        have s2 : (c : Int) ≤ (c : Int) + (k : Int) := by omega
        have s3 : (c : Int) + (k : Int) ≤ (cap : Int) := by omega
        have s4 : ((c : Int) + (k : Int)).toNat = c + k := by omega
        have s5 : ¬ cap = c := by omega
        clear hle
        obtain ⟨xk, xn, xt, xl, xfn, xfv⟩ := V
        go_wp2_with fail
        refine hc.out.mono ?_
        rintro e w6 ⟨h6, cs6, rfl, hr6⟩
        obtain ⟨ya, yc, za, zc, rfl, _⟩ := hr6.inv
        have hB6 := below_new w6 (.cells #[.int .i64 xk, .int .i64 xn, .string xt, .slice ya xl.length yc, .slice za xfv.length zc] 25)
        have D7 := hid (hlow.out.step (h6.step hB6))
        have hown7 := hid (hown.out.later valRel (h6.step hB6))
        have r9 := hid (heap_alloc_new w6 (.cells #[.int .i64 xk, .int .i64 xn, .string xt, .slice ya xl.length yc, .slice za xfv.length zc] 25))
        have hN7 : Hid (Rd (w6.alloc (.cells #[.int .i64 xk, .int .i64 xn, .string xt, .slice ya xl.length yc, .slice za xfv.length zc] 25)) (Now (w6.alloc (.cells #[.int .i64 xk, .int .i64 xn, .string xt, .slice ya xl.length yc, .slice za xfv.length zc] 25))) (.mk xk xn xt xl xfn xfv) [.int .i64 xk, .int .i64 xn, .string xt, .slice ya xl.length yc, .slice za xfv.length zc]) := (hr6.keep (fun b hb => hb.2) (fun _ _ => rfl) : Rd w6 (Now w6) _ _).later hB6
        have hX7 : Hid (Rd (w6.alloc (.cells #[.int .i64 xk, .int .i64 xn, .string xt, .slice ya xl.length yc, .slice za xfv.length zc] 25)) (Apart w.heap.size (w6.alloc (.cells #[.int .i64 xk, .int .i64 xn, .string xt, .slice ya xl.length yc, .slice za xfv.length zc] 25)) vs) (.mk xk xn xt xl xfn xfv) [.int .i64 xk, .int .i64 xn, .string xt, .slice ya xl.length yc, .slice za xfv.length zc]) :=
          hr6.keep (fun b hb => ⟨by have := hb.1; have := hlow.out.size; omega, by have := hb.2; simp; omega, fun e => by have := (hown.out.lt b e).2; have := hb.1; omega⟩) (fun b hb => hB6.block b hb.2)
        clear hr6 h6 hown hlow hB6
        go_upto_region 7 with fail
        obtain ⟨w7, hw7⟩ : ∃ w7, w7 = w6.alloc (.cells #[.int .i64 xk, .int .i64 xn, .string xt, .slice ya xl.length yc, .slice za xfv.length zc] 25) := ⟨_, rfl⟩
        rw [← hw7] at D7 hown7 r9 hN7 hX7 ⊢
        clear hw7
        have hS : Hid (∀ x, Below w7.heap.size w7 x → (RsS w6.heap.size (.int .i64 xk) (.int .i64 xn) (.string xt) (.slice ya xl.length yc) (.slice za xfv.length zc) (.slice (some ⟨b, off + c, none⟩) k (cap - c)) ⟨T.toArray⟩) x) := fun x h => rsS_mk r9.out h (hmid.out x (D7.out.step h))
        clear r9 hmid
        by_cases hg : g0 = 0
        · subst hg
          replace hO := hid (hO.out (hfm.out rfl))
          by_cases hKT : K = T
          · have hKT2 := hKT.symm
            clear hKT
            subst hKT2
            replace hstep := hid (hstep.out rfl rfl)
            clear hbad hfm
            refine wp_region_T (RsS w6.heap.size (.int .i64 xk) (.int .i64 xn) (.string xt) (.slice ya xl.length yc) (.slice za xfv.length zc) (.slice (some ⟨b, off + c, none⟩) k (cap - c)) ⟨T.toArray⟩) 18 (by kernel_rfl) ?_
            have hS0 := hS.out _ (Below.refl w7.heap.size w7).drew
            ((refine wpAnyT_take (i := 0) (v := ?_) rfl (by kernel_rfl) (by kernel_rfl) (by kernel_rfl) (by kernel_rfl) (by exact fun _ _ _ h => h) (Or.inl ⟨by kernel_rfl, ?_⟩) hS0 ?_; rotate_left 1; focus (intro w hSw; unfold RsS at hSw; (try dsimp only at hSw); go_simp; try with_reducible rfl); (try simp only [List.getElem_toArray, List.getElem_cons_zero, List.getElem_cons_succ, Act.put, List.setIfInBounds_toArray, List.set_cons_zero, List.set_cons_succ])); (refine wpAnyT_take (i := 1) (v := ?_) rfl (by kernel_rfl) (by kernel_rfl) (by kernel_rfl) (by kernel_rfl) (by exact fun _ _ _ h => h) (Or.inl ⟨by kernel_rfl, ?_⟩) hS0 ?_; rotate_left 1; focus (intro w hSw; unfold RsS at hSw; (try dsimp only at hSw); go_simp; try with_reducible rfl); (try simp only [List.getElem_toArray, List.getElem_cons_zero, List.getElem_cons_succ, Act.put, List.setIfInBounds_toArray, List.set_cons_zero, List.set_cons_succ])); (refine wpAnyT_take (i := 2) (v := ?_) rfl (by kernel_rfl) (by kernel_rfl) (by kernel_rfl) (by kernel_rfl) (by exact fun _ _ _ h => h) (Or.inl ⟨by kernel_rfl, ?_⟩) hS0 ?_; rotate_left 1; focus (intro w hSw; unfold RsS at hSw; (try dsimp only at hSw); go_simp; try with_reducible rfl); (try simp only [List.getElem_toArray, List.getElem_cons_zero, List.getElem_cons_succ, Act.put, List.setIfInBounds_toArray, List.set_cons_zero, List.set_cons_succ])); (refine wpAnyT_take (i := 3) (v := ?_) rfl (by kernel_rfl) (by kernel_rfl) (by kernel_rfl) (by kernel_rfl) (by exact fun _ _ _ h => h) (Or.inl ⟨by kernel_rfl, ?_⟩) hS0 ?_; rotate_left 1; focus (intro w hSw; unfold RsS at hSw; (try dsimp only at hSw); go_simp; try with_reducible rfl); (try simp only [List.getElem_toArray, List.getElem_cons_zero, List.getElem_cons_succ, Act.put, List.setIfInBounds_toArray, List.set_cons_zero, List.set_cons_succ])))
            refine wpAnyT_one (i := 4) (by kernel_rfl) rfl (fun K hK => ?_)
            go_simp
            refine (hG.out _ _ (hN7.out.later (Below.refl _ _).drew)).mono ?_
            rintro e wE ⟨rfl, hE⟩
            have E1 := hid ((Below.refl w7.heap.size w7).drew.step hE)
            clear hE hS0
            have hS1 := hS.out _ E1.out
            (refine hK.out _ _ (fun _ => hS1) (fun _ => ?_); clear hK K; (try simp only [Act.put, List.setIfInBounds_toArray, List.set_cons_zero, List.set_cons_succ]))
            ((refine wpAnyT_take (i := 5) (v := ?_) rfl (by kernel_rfl) (by kernel_rfl) (by kernel_rfl) (by kernel_rfl) (by exact fun _ _ _ h => h) (Or.inl ⟨by kernel_rfl, ?_⟩) hS1 ?_; rotate_left 1; focus (intro w hSw; unfold RsS at hSw; (try dsimp only at hSw); go_simp; try with_reducible rfl); (try simp only [List.getElem_toArray, List.getElem_cons_zero, List.getElem_cons_succ, Act.put, List.setIfInBounds_toArray, List.set_cons_zero, List.set_cons_succ])); (refine wpAnyT_take (i := 6) (v := ?_) rfl (by kernel_rfl) (by kernel_rfl) (by kernel_rfl) (by kernel_rfl) (by exact fun _ _ _ h => h) (Or.inl ⟨by kernel_rfl, ?_⟩) hS1 ?_; rotate_left 1; focus (intro w hSw; unfold RsS at hSw; (try dsimp only at hSw); go_simp; try with_reducible rfl); (try simp only [List.getElem_toArray, List.getElem_cons_zero, List.getElem_cons_succ, Act.put, List.setIfInBounds_toArray, List.set_cons_zero, List.set_cons_succ])); (refine wpAnyT_take (i := 7) (v := ?_) rfl (by kernel_rfl) (by kernel_rfl) (by kernel_rfl) (by kernel_rfl) (by exact fun _ _ _ h => h) (Or.inl ⟨by kernel_rfl, ?_⟩) hS1 ?_; rotate_left 1; focus (intro w hSw; unfold RsS at hSw; (try dsimp only at hSw); go_simp; try with_reducible rfl); (try simp only [List.getElem_toArray, List.getElem_cons_zero, List.getElem_cons_succ, Act.put, List.setIfInBounds_toArray, List.set_cons_zero, List.set_cons_succ])); (refine wpAnyT_take (i := 8) (v := ?_) rfl (by kernel_rfl) (by kernel_rfl) (by kernel_rfl) (by kernel_rfl) (by exact fun _ _ _ h => h) (Or.inl ⟨by kernel_rfl, ?_⟩) hS1 ?_; rotate_left 1; focus (intro w hSw; unfold RsS at hSw; (try dsimp only at hSw); go_simp; try with_reducible rfl); (try simp only [List.getElem_toArray, List.getElem_cons_zero, List.getElem_cons_succ, Act.put, List.setIfInBounds_toArray, List.set_cons_zero, List.set_cons_succ])); (refine wpAnyT_take (i := 11) (v := ?_) rfl (by kernel_rfl) (by kernel_rfl) (by kernel_rfl) (by kernel_rfl) (by exact fun _ _ _ h => h) (Or.inl ⟨by kernel_rfl, ?_⟩) hS1 ?_; rotate_left 1; focus (intro w hSw; unfold RsS at hSw; (try dsimp only at hSw); go_simp; try with_reducible rfl); (try simp only [List.getElem_toArray, List.getElem_cons_zero, List.getElem_cons_succ, Act.put, List.setIfInBounds_toArray, List.set_cons_zero, List.set_cons_succ])); (refine wpAnyT_take (i := 12) (v := ?_) rfl (by kernel_rfl) (by kernel_rfl) (by kernel_rfl) (by kernel_rfl) (by exact fun _ _ _ h => h) (Or.inl ⟨by kernel_rfl, ?_⟩) hS1 ?_; rotate_left 1; focus (intro w hSw; unfold RsS at hSw; (try dsimp only at hSw); go_simp; try with_reducible rfl); (try simp only [List.getElem_toArray, List.getElem_cons_zero, List.getElem_cons_succ, Act.put, List.setIfInBounds_toArray, List.set_cons_zero, List.set_cons_succ])); (refine wpAnyT_take (i := 13) (v := ?_) rfl (by kernel_rfl) (by kernel_rfl) (by kernel_rfl) (by kernel_rfl) (by exact fun _ _ _ h => h) (Or.inl ⟨by kernel_rfl, ?_⟩) hS1 ?_; rotate_left 1; focus (intro w hSw; unfold RsS at hSw; (try dsimp only at hSw); go_simp; try with_reducible rfl); (try simp only [List.getElem_toArray, List.getElem_cons_zero, List.getElem_cons_succ, Act.put, List.setIfInBounds_toArray, List.set_cons_zero, List.set_cons_succ])); (refine wpAnyT_take (i := 14) (v := ?_) rfl (by kernel_rfl) (by kernel_rfl) (by kernel_rfl) (by kernel_rfl) (by exact fun _ _ _ h => h) (Or.inl ⟨by kernel_rfl, ?_⟩) hS1 ?_; rotate_left 1; focus (intro w hSw; unfold RsS at hSw; (try dsimp only at hSw); go_simp; try with_reducible rfl); (try simp only [List.getElem_toArray, List.getElem_cons_zero, List.getElem_cons_succ, Act.put, List.setIfInBounds_toArray, List.set_cons_zero, List.set_cons_succ])); (refine wpAnyT_take (i := 15) (v := ?_) rfl (by kernel_rfl) (by kernel_rfl) (by kernel_rfl) (by kernel_rfl) (by exact fun _ _ _ h => h) (Or.inl ⟨by kernel_rfl, ?_⟩) hS1 ?_; rotate_left 1; focus (intro w hSw; unfold RsS at hSw; (try dsimp only at hSw); go_simp; try with_reducible rfl); (try simp only [List.getElem_toArray, List.getElem_cons_zero, List.getElem_cons_succ, Act.put, List.setIfInBounds_toArray, List.set_cons_zero, List.set_cons_succ])))
            refine wpAnyT_one (i := 9) (by kernel_rfl) rfl (fun K hK => ?_)
            go_simp
            refine (hO.out _ _ (hN7.out.later E1.out)).mono ?_
            rintro e wF ⟨vF, rfl, gF, cF, rfl, hmF⟩
            have E2 := hid (E1.out.step hmF.below)
            have cvF := conv_buf (P := Tryd.prog) Tryd.underlying26 Tryd.underlying5 Tryd.underlying9 hmF
            clear hmF hS1
            have hS2 := hS.out _ E2.out
            (refine hK.out _ _ (fun _ => hS2) (fun _ => ?_); clear hK K; (try simp only [Act.put, List.setIfInBounds_toArray, List.set_cons_zero, List.set_cons_succ]))
            refine wpAnyT_one (i := 10) (by kernel_rfl) rfl (fun K hK => ?_)
            go_simp
            (refine hK.out _ _ (fun _ => hS2) (fun _ => ?_); clear hK K; (try simp only [Act.put, List.setIfInBounds_toArray, List.set_cons_zero, List.set_cons_succ]))
            clear cvF
            ((refine wpAnyT_take (i := 16) (v := ?_) rfl (by kernel_rfl) (by kernel_rfl) (by kernel_rfl) (by kernel_rfl) (by exact fun _ _ _ h => h) (Or.inl ⟨by kernel_rfl, ?_⟩) hS2 ?_; rotate_left 1; focus (intro w hSw; unfold RsS at hSw; (try dsimp only at hSw); go_simp; try with_reducible rfl); (try simp only [List.getElem_toArray, List.getElem_cons_zero, List.getElem_cons_succ, Act.put, List.setIfInBounds_toArray, List.set_cons_zero, List.set_cons_succ])); (refine wpAnyT_take (i := 17) (v := ?_) rfl (by kernel_rfl) (by kernel_rfl) (by kernel_rfl) (by kernel_rfl) (by exact fun _ _ _ h => h) (Or.inl ⟨by kernel_rfl, ?_⟩) hS2 ?_; rotate_left 1; focus (intro w hSw; unfold RsS at hSw; (try dsimp only at hSw); go_simp; try with_reducible rfl); (try simp only [List.getElem_toArray, List.getElem_cons_zero, List.getElem_cons_succ, Act.put, List.setIfInBounds_toArray, List.set_cons_zero, List.set_cons_succ])))
            refine wpAnyT_done (by kernel_rfl) ?_ _
            replace hstep := hstep
            have hS2' := hid hS2
            have hown8 := hid (hown7.out.later valRel (E2.out.step (below_new wF (.cells #[.int .i64 xk, .int .i64 xn, .string xt, .slice ya xl.length yc, .slice za xfv.length zc] 25))))
            have hX8 : Hid (Rd (wF.alloc (.cells #[.int .i64 xk, .int .i64 xn, .string xt, .slice ya xl.length yc, .slice za xfv.length zc] 25)) (Apart w.heap.size (wF.alloc (.cells #[.int .i64 xk, .int .i64 xn, .string xt, .slice ya xl.length yc, .slice za xfv.length zc] 25)) vs) (.mk xk xn xt xl xfn xfv) [.int .i64 xk, .int .i64 xn, .string xt, .slice ya xl.length yc, .slice za xfv.length zc]) :=
              hX7.out.keep (fun b hb => ⟨hb.1, by have := hb.2.1; have := (E2.out.step (below_new wF (.cells #[.int .i64 xk, .int .i64 xn, .string xt, .slice ya xl.length yc, .slice za xfv.length zc] 25))).size; omega, hb.2.2⟩) (fun b hb => (E2.out.step (below_new wF (.cells #[.int .i64 xk, .int .i64 xn, .string xt, .slice ya xl.length yc, .slice za xfv.length zc] 25))).block b hb.2.1)
            have D8 := hid (D7.out.step (E2.out.step (below_new wF (.cells #[.int .i64 xk, .int .i64 xn, .string xt, .slice ya xl.length yc, .slice za xfv.length zc] 25))))
            obtain ⟨t0, t1, t2, t3, t4, _⟩ := hS2'.out
            clear hS hS2 hS2'
            go_wp2_with (first
              | (at_builtin; (refine wpList_append_g valRel _ rfl _ _ 22 rfl w.heap.size w.heap.size 25 80 i0 _ Tryd.underlying22 hi hz0 hz1 hz2 rfl (by decide) xs vs rfl hown8.out ⟨wF.heap.size, 0, none⟩ 1 [.int .i64 xk, .int .i64 xn, .string xt, .slice ya xl.length yc, .slice za xfv.length zc] (.mk xk xn xt xl xfn xfv) rfl (cells_new _ _ rfl _ _) hX8.out (by have := hxl.out; have := hct.out; omega) (by have := hxl.out; have := hct.out; unfold maxLen; omega) D8.out.size ?_); intro v9 w9 hown9 hg9 hlow9 hst9; have D9 := hid (D8.out.trans (grown_from hown8.out hg9 D8.out.size)); replace hown9 := hid hown9))
            go_roundg (n - (j + 1))
            case measure => omega
            case rel => exact ⟨j + 1, c + k, _, v9, by omega, by have := hxl.out; have := hkk.out; simp; omega, by have := hkk.out; omega, rfl, by go_num, by go_num, by rw [← List.drop_drop]; exact hstep, D9, hown9⟩
          · have hne4 : (K == T) = false := beq_eq_false_iff_ne.2 hKT
            have hno := hid (hbad.out (.inr hKT))
            clear hbad hstep hfm hX7 hown7
            refine wp_region_T (RsS w6.heap.size (.int .i64 xk) (.int .i64 xn) (.string xt) (.slice ya xl.length yc) (.slice za xfv.length zc) (.slice (some ⟨b, off + c, none⟩) k (cap - c)) ⟨T.toArray⟩) 18 (by kernel_rfl) ?_
            have hS0 := hS.out _ (Below.refl w7.heap.size w7).drew
            ((refine wpAnyT_take (i := 0) (v := ?_) rfl (by kernel_rfl) (by kernel_rfl) (by kernel_rfl) (by kernel_rfl) (by exact fun _ _ _ h => h) (Or.inl ⟨by kernel_rfl, ?_⟩) hS0 ?_; rotate_left 1; focus (intro w hSw; unfold RsS at hSw; (try dsimp only at hSw); go_simp; try with_reducible rfl); (try simp only [List.getElem_toArray, List.getElem_cons_zero, List.getElem_cons_succ, Act.put, List.setIfInBounds_toArray, List.set_cons_zero, List.set_cons_succ])); (refine wpAnyT_take (i := 1) (v := ?_) rfl (by kernel_rfl) (by kernel_rfl) (by kernel_rfl) (by kernel_rfl) (by exact fun _ _ _ h => h) (Or.inl ⟨by kernel_rfl, ?_⟩) hS0 ?_; rotate_left 1; focus (intro w hSw; unfold RsS at hSw; (try dsimp only at hSw); go_simp; try with_reducible rfl); (try simp only [List.getElem_toArray, List.getElem_cons_zero, List.getElem_cons_succ, Act.put, List.setIfInBounds_toArray, List.set_cons_zero, List.set_cons_succ])); (refine wpAnyT_take (i := 2) (v := ?_) rfl (by kernel_rfl) (by kernel_rfl) (by kernel_rfl) (by kernel_rfl) (by exact fun _ _ _ h => h) (Or.inl ⟨by kernel_rfl, ?_⟩) hS0 ?_; rotate_left 1; focus (intro w hSw; unfold RsS at hSw; (try dsimp only at hSw); go_simp; try with_reducible rfl); (try simp only [List.getElem_toArray, List.getElem_cons_zero, List.getElem_cons_succ, Act.put, List.setIfInBounds_toArray, List.set_cons_zero, List.set_cons_succ])); (refine wpAnyT_take (i := 3) (v := ?_) rfl (by kernel_rfl) (by kernel_rfl) (by kernel_rfl) (by kernel_rfl) (by exact fun _ _ _ h => h) (Or.inl ⟨by kernel_rfl, ?_⟩) hS0 ?_; rotate_left 1; focus (intro w hSw; unfold RsS at hSw; (try dsimp only at hSw); go_simp; try with_reducible rfl); (try simp only [List.getElem_toArray, List.getElem_cons_zero, List.getElem_cons_succ, Act.put, List.setIfInBounds_toArray, List.set_cons_zero, List.set_cons_succ])))
            refine wpAnyT_one (i := 4) (by kernel_rfl) rfl (fun K hK => ?_)
            go_simp
            refine (hG.out _ _ (hN7.out.later (Below.refl _ _).drew)).mono ?_
            rintro e wE ⟨rfl, hE⟩
            have E1 := hid ((Below.refl w7.heap.size w7).drew.step hE)
            clear hE hS0
            have hS1 := hS.out _ E1.out
            (refine hK.out _ _ (fun _ => hS1) (fun _ => ?_); clear hK K; (try simp only [Act.put, List.setIfInBounds_toArray, List.set_cons_zero, List.set_cons_succ]))
            ((refine wpAnyT_take (i := 5) (v := ?_) rfl (by kernel_rfl) (by kernel_rfl) (by kernel_rfl) (by kernel_rfl) (by exact fun _ _ _ h => h) (Or.inl ⟨by kernel_rfl, ?_⟩) hS1 ?_; rotate_left 1; focus (intro w hSw; unfold RsS at hSw; (try dsimp only at hSw); go_simp; try with_reducible rfl); (try simp only [List.getElem_toArray, List.getElem_cons_zero, List.getElem_cons_succ, Act.put, List.setIfInBounds_toArray, List.set_cons_zero, List.set_cons_succ])); (refine wpAnyT_take (i := 6) (v := ?_) rfl (by kernel_rfl) (by kernel_rfl) (by kernel_rfl) (by kernel_rfl) (by exact fun _ _ _ h => h) (Or.inl ⟨by kernel_rfl, ?_⟩) hS1 ?_; rotate_left 1; focus (intro w hSw; unfold RsS at hSw; (try dsimp only at hSw); go_simp; try with_reducible rfl); (try simp only [List.getElem_toArray, List.getElem_cons_zero, List.getElem_cons_succ, Act.put, List.setIfInBounds_toArray, List.set_cons_zero, List.set_cons_succ])); (refine wpAnyT_take (i := 7) (v := ?_) rfl (by kernel_rfl) (by kernel_rfl) (by kernel_rfl) (by kernel_rfl) (by exact fun _ _ _ h => h) (Or.inl ⟨by kernel_rfl, ?_⟩) hS1 ?_; rotate_left 1; focus (intro w hSw; unfold RsS at hSw; (try dsimp only at hSw); go_simp; try with_reducible rfl); (try simp only [List.getElem_toArray, List.getElem_cons_zero, List.getElem_cons_succ, Act.put, List.setIfInBounds_toArray, List.set_cons_zero, List.set_cons_succ])); (refine wpAnyT_take (i := 8) (v := ?_) rfl (by kernel_rfl) (by kernel_rfl) (by kernel_rfl) (by kernel_rfl) (by exact fun _ _ _ h => h) (Or.inl ⟨by kernel_rfl, ?_⟩) hS1 ?_; rotate_left 1; focus (intro w hSw; unfold RsS at hSw; (try dsimp only at hSw); go_simp; try with_reducible rfl); (try simp only [List.getElem_toArray, List.getElem_cons_zero, List.getElem_cons_succ, Act.put, List.setIfInBounds_toArray, List.set_cons_zero, List.set_cons_succ])); (refine wpAnyT_take (i := 11) (v := ?_) rfl (by kernel_rfl) (by kernel_rfl) (by kernel_rfl) (by kernel_rfl) (by exact fun _ _ _ h => h) (Or.inl ⟨by kernel_rfl, ?_⟩) hS1 ?_; rotate_left 1; focus (intro w hSw; unfold RsS at hSw; (try dsimp only at hSw); go_simp; try with_reducible rfl); (try simp only [List.getElem_toArray, List.getElem_cons_zero, List.getElem_cons_succ, Act.put, List.setIfInBounds_toArray, List.set_cons_zero, List.set_cons_succ])); (refine wpAnyT_take (i := 12) (v := ?_) rfl (by kernel_rfl) (by kernel_rfl) (by kernel_rfl) (by kernel_rfl) (by exact fun _ _ _ h => h) (Or.inl ⟨by kernel_rfl, ?_⟩) hS1 ?_; rotate_left 1; focus (intro w hSw; unfold RsS at hSw; (try dsimp only at hSw); go_simp; try with_reducible rfl); (try simp only [List.getElem_toArray, List.getElem_cons_zero, List.getElem_cons_succ, Act.put, List.setIfInBounds_toArray, List.set_cons_zero, List.set_cons_succ])); (refine wpAnyT_take (i := 13) (v := ?_) rfl (by kernel_rfl) (by kernel_rfl) (by kernel_rfl) (by kernel_rfl) (by exact fun _ _ _ h => h) (Or.inl ⟨by kernel_rfl, ?_⟩) hS1 ?_; rotate_left 1; focus (intro w hSw; unfold RsS at hSw; (try dsimp only at hSw); go_simp; try with_reducible rfl); (try simp only [List.getElem_toArray, List.getElem_cons_zero, List.getElem_cons_succ, Act.put, List.setIfInBounds_toArray, List.set_cons_zero, List.set_cons_succ])); (refine wpAnyT_take (i := 14) (v := ?_) rfl (by kernel_rfl) (by kernel_rfl) (by kernel_rfl) (by kernel_rfl) (by exact fun _ _ _ h => h) (Or.inl ⟨by kernel_rfl, ?_⟩) hS1 ?_; rotate_left 1; focus (intro w hSw; unfold RsS at hSw; (try dsimp only at hSw); go_simp; try with_reducible rfl); (try simp only [List.getElem_toArray, List.getElem_cons_zero, List.getElem_cons_succ, Act.put, List.setIfInBounds_toArray, List.set_cons_zero, List.set_cons_succ])); (refine wpAnyT_take (i := 15) (v := ?_) rfl (by kernel_rfl) (by kernel_rfl) (by kernel_rfl) (by kernel_rfl) (by exact fun _ _ _ h => h) (Or.inl ⟨by kernel_rfl, ?_⟩) hS1 ?_; rotate_left 1; focus (intro w hSw; unfold RsS at hSw; (try dsimp only at hSw); go_simp; try with_reducible rfl); (try simp only [List.getElem_toArray, List.getElem_cons_zero, List.getElem_cons_succ, Act.put, List.setIfInBounds_toArray, List.set_cons_zero, List.set_cons_succ])))
            refine wpAnyT_one (i := 9) (by kernel_rfl) rfl (fun K hK => ?_)
            go_simp
            refine (hO.out _ _ (hN7.out.later E1.out)).mono ?_
            rintro e wF ⟨vF, rfl, gF, cF, rfl, hmF⟩
            have E2 := hid (E1.out.step hmF.below)
            have cvF := conv_buf (P := Tryd.prog) Tryd.underlying26 Tryd.underlying5 Tryd.underlying9 hmF
            clear hmF hS1
            have hS2 := hS.out _ E2.out
            (refine hK.out _ _ (fun _ => hS2) (fun _ => ?_); clear hK K; (try simp only [Act.put, List.setIfInBounds_toArray, List.set_cons_zero, List.set_cons_succ]))
            refine wpAnyT_one (i := 10) (by kernel_rfl) rfl (fun K hK => ?_)
            go_simp
            (refine hK.out _ _ (fun _ => hS2) (fun _ => ?_); clear hK K; (try simp only [Act.put, List.setIfInBounds_toArray, List.set_cons_zero, List.set_cons_succ]))
            clear cvF
            ((refine wpAnyT_take (i := 16) (v := ?_) rfl (by kernel_rfl) (by kernel_rfl) (by kernel_rfl) (by kernel_rfl) (by exact fun _ _ _ h => h) (Or.inl ⟨by kernel_rfl, ?_⟩) hS2 ?_; rotate_left 1; focus (intro w hSw; unfold RsS at hSw; (try dsimp only at hSw); go_simp; try with_reducible rfl); (try simp only [List.getElem_toArray, List.getElem_cons_zero, List.getElem_cons_succ, Act.put, List.setIfInBounds_toArray, List.set_cons_zero, List.set_cons_succ])); (refine wpAnyT_take (i := 17) (v := ?_) rfl (by kernel_rfl) (by kernel_rfl) (by kernel_rfl) (by kernel_rfl) (by exact fun _ _ _ h => h) (Or.inl ⟨by kernel_rfl, ?_⟩) hS2 ?_; rotate_left 1; focus (intro w hSw; unfold RsS at hSw; (try dsimp only at hSw); go_simp; try with_reducible rfl); (try simp only [List.getElem_toArray, List.getElem_cons_zero, List.getElem_cons_succ, Act.put, List.setIfInBounds_toArray, List.set_cons_zero, List.set_cons_succ])))
            refine wpAnyT_done (by kernel_rfl) ?_ _
            go_wp2_with fail
            go_returns
            exact split5_no hno.out (D7.out.step E2.out)
        · have hg1 : (g0 != 0) = true := by simp [hg]
          have hg2 : (g0 == 0) = false := by simp [hg]
          have hno := hid (hbad.out (.inl hg))
          clear hbad hstep hfm hX7 hown7 hO
          refine wp_region_T (RsS w6.heap.size (.int .i64 xk) (.int .i64 xn) (.string xt) (.slice ya xl.length yc) (.slice za xfv.length zc) (.slice (some ⟨b, off + c, none⟩) k (cap - c)) ⟨T.toArray⟩) 18 (by kernel_rfl) ?_
          have hS0 := hS.out _ (Below.refl w7.heap.size w7).drew
          ((refine wpAnyT_take (i := 0) (v := ?_) rfl (by kernel_rfl) (by kernel_rfl) (by kernel_rfl) (by kernel_rfl) (by exact fun _ _ _ h => h) (Or.inl ⟨by kernel_rfl, ?_⟩) hS0 ?_; rotate_left 1; focus (intro w hSw; unfold RsS at hSw; (try dsimp only at hSw); go_simp; try with_reducible rfl); (try simp only [List.getElem_toArray, List.getElem_cons_zero, List.getElem_cons_succ, Act.put, List.setIfInBounds_toArray, List.set_cons_zero, List.set_cons_succ])); (refine wpAnyT_take (i := 1) (v := ?_) rfl (by kernel_rfl) (by kernel_rfl) (by kernel_rfl) (by kernel_rfl) (by exact fun _ _ _ h => h) (Or.inl ⟨by kernel_rfl, ?_⟩) hS0 ?_; rotate_left 1; focus (intro w hSw; unfold RsS at hSw; (try dsimp only at hSw); go_simp; try with_reducible rfl); (try simp only [List.getElem_toArray, List.getElem_cons_zero, List.getElem_cons_succ, Act.put, List.setIfInBounds_toArray, List.set_cons_zero, List.set_cons_succ])); (refine wpAnyT_take (i := 2) (v := ?_) rfl (by kernel_rfl) (by kernel_rfl) (by kernel_rfl) (by kernel_rfl) (by exact fun _ _ _ h => h) (Or.inl ⟨by kernel_rfl, ?_⟩) hS0 ?_; rotate_left 1; focus (intro w hSw; unfold RsS at hSw; (try dsimp only at hSw); go_simp; try with_reducible rfl); (try simp only [List.getElem_toArray, List.getElem_cons_zero, List.getElem_cons_succ, Act.put, List.setIfInBounds_toArray, List.set_cons_zero, List.set_cons_succ])); (refine wpAnyT_take (i := 3) (v := ?_) rfl (by kernel_rfl) (by kernel_rfl) (by kernel_rfl) (by kernel_rfl) (by exact fun _ _ _ h => h) (Or.inl ⟨by kernel_rfl, ?_⟩) hS0 ?_; rotate_left 1; focus (intro w hSw; unfold RsS at hSw; (try dsimp only at hSw); go_simp; try with_reducible rfl); (try simp only [List.getElem_toArray, List.getElem_cons_zero, List.getElem_cons_succ, Act.put, List.setIfInBounds_toArray, List.set_cons_zero, List.set_cons_succ])))
          refine wpAnyT_one (i := 4) (by kernel_rfl) rfl (fun K hK => ?_)
          go_simp
          refine (hG.out _ _ (hN7.out.later (Below.refl _ _).drew)).mono ?_
          rintro e wE ⟨rfl, hE⟩
          have E1 := hid ((Below.refl w7.heap.size w7).drew.step hE)
          clear hE hS0
          have hS1 := hS.out _ E1.out
          (refine hK.out _ _ (fun _ => hS1) (fun _ => ?_); clear hK K; (try simp only [Act.put, List.setIfInBounds_toArray, List.set_cons_zero, List.set_cons_succ]))
          ((refine wpAnyT_take (i := 5) (v := ?_) rfl (by kernel_rfl) (by kernel_rfl) (by kernel_rfl) (by kernel_rfl) (by exact fun _ _ _ h => h) (Or.inl ⟨by kernel_rfl, ?_⟩) hS1 ?_; rotate_left 1; focus (intro w hSw; unfold RsS at hSw; (try dsimp only at hSw); go_simp; try with_reducible rfl); (try simp only [List.getElem_toArray, List.getElem_cons_zero, List.getElem_cons_succ, Act.put, List.setIfInBounds_toArray, List.set_cons_zero, List.set_cons_succ])); (refine wpAnyT_take (i := 6) (v := ?_) rfl (by kernel_rfl) (by kernel_rfl) (by kernel_rfl) (by kernel_rfl) (by exact fun _ _ _ h => h) (Or.inl ⟨by kernel_rfl, ?_⟩) hS1 ?_; rotate_left 1; focus (intro w hSw; unfold RsS at hSw; (try dsimp only at hSw); go_simp; try with_reducible rfl); (try simp only [List.getElem_toArray, List.getElem_cons_zero, List.getElem_cons_succ, Act.put, List.setIfInBounds_toArray, List.set_cons_zero, List.set_cons_succ])); (refine wpAnyT_take (i := 7) (v := ?_) rfl (by kernel_rfl) (by kernel_rfl) (by kernel_rfl) (by kernel_rfl) (by exact fun _ _ _ h => h) (Or.inl ⟨by kernel_rfl, ?_⟩) hS1 ?_; rotate_left 1; focus (intro w hSw; unfold RsS at hSw; (try dsimp only at hSw); go_simp; try with_reducible rfl); (try simp only [List.getElem_toArray, List.getElem_cons_zero, List.getElem_cons_succ, Act.put, List.setIfInBounds_toArray, List.set_cons_zero, List.set_cons_succ])))
          ((refine wpAnyT_take (i := 8) (v := _) rfl (by kernel_rfl) (by kernel_rfl) (by kernel_rfl) (by kernel_rfl) (by exact fun _ _ _ h => h) (Or.inr ⟨by kernel_rfl, rfl⟩) hS1 ?_; (try simp only [List.getElem_toArray, List.getElem_cons_zero, List.getElem_cons_succ, Act.put, List.setIfInBounds_toArray, List.set_cons_zero, List.set_cons_succ])); (refine wpAnyT_take (i := 9) (v := _) rfl (by kernel_rfl) (by kernel_rfl) (by kernel_rfl) (by kernel_rfl) (by exact fun _ _ _ h => h) (Or.inr ⟨by kernel_rfl, rfl⟩) hS1 ?_; (try simp only [List.getElem_toArray, List.getElem_cons_zero, List.getElem_cons_succ, Act.put, List.setIfInBounds_toArray, List.set_cons_zero, List.set_cons_succ])); (refine wpAnyT_take (i := 10) (v := _) rfl (by kernel_rfl) (by kernel_rfl) (by kernel_rfl) (by kernel_rfl) (by exact fun _ _ _ h => h) (Or.inr ⟨by kernel_rfl, rfl⟩) hS1 ?_; (try simp only [List.getElem_toArray, List.getElem_cons_zero, List.getElem_cons_succ, Act.put, List.setIfInBounds_toArray, List.set_cons_zero, List.set_cons_succ])); (refine wpAnyT_take (i := 11) (v := _) rfl (by kernel_rfl) (by kernel_rfl) (by kernel_rfl) (by kernel_rfl) (by exact fun _ _ _ h => h) (Or.inr ⟨by kernel_rfl, rfl⟩) hS1 ?_; (try simp only [List.getElem_toArray, List.getElem_cons_zero, List.getElem_cons_succ, Act.put, List.setIfInBounds_toArray, List.set_cons_zero, List.set_cons_succ])); (refine wpAnyT_take (i := 12) (v := _) rfl (by kernel_rfl) (by kernel_rfl) (by kernel_rfl) (by kernel_rfl) (by exact fun _ _ _ h => h) (Or.inr ⟨by kernel_rfl, rfl⟩) hS1 ?_; (try simp only [List.getElem_toArray, List.getElem_cons_zero, List.getElem_cons_succ, Act.put, List.setIfInBounds_toArray, List.set_cons_zero, List.set_cons_succ])); (refine wpAnyT_take (i := 13) (v := _) rfl (by kernel_rfl) (by kernel_rfl) (by kernel_rfl) (by kernel_rfl) (by exact fun _ _ _ h => h) (Or.inr ⟨by kernel_rfl, rfl⟩) hS1 ?_; (try simp only [List.getElem_toArray, List.getElem_cons_zero, List.getElem_cons_succ, Act.put, List.setIfInBounds_toArray, List.set_cons_zero, List.set_cons_succ])); (refine wpAnyT_take (i := 14) (v := _) rfl (by kernel_rfl) (by kernel_rfl) (by kernel_rfl) (by kernel_rfl) (by exact fun _ _ _ h => h) (Or.inr ⟨by kernel_rfl, rfl⟩) hS1 ?_; (try simp only [List.getElem_toArray, List.getElem_cons_zero, List.getElem_cons_succ, Act.put, List.setIfInBounds_toArray, List.set_cons_zero, List.set_cons_succ])); (refine wpAnyT_take (i := 15) (v := _) rfl (by kernel_rfl) (by kernel_rfl) (by kernel_rfl) (by kernel_rfl) (by exact fun _ _ _ h => h) (Or.inr ⟨by kernel_rfl, rfl⟩) hS1 ?_; (try simp only [List.getElem_toArray, List.getElem_cons_zero, List.getElem_cons_succ, Act.put, List.setIfInBounds_toArray, List.set_cons_zero, List.set_cons_succ])); (refine wpAnyT_take (i := 16) (v := _) rfl (by kernel_rfl) (by kernel_rfl) (by kernel_rfl) (by kernel_rfl) (by exact fun _ _ _ h => h) (Or.inr ⟨by kernel_rfl, rfl⟩) hS1 ?_; (try simp only [List.getElem_toArray, List.getElem_cons_zero, List.getElem_cons_succ, Act.put, List.setIfInBounds_toArray, List.set_cons_zero, List.set_cons_succ])))
          ((refine wpAnyT_take (i := 17) (v := ?_) rfl (by kernel_rfl) (by kernel_rfl) (by kernel_rfl) (by kernel_rfl) (by exact fun _ _ _ h => h) (Or.inl ⟨by kernel_rfl, ?_⟩) hS1 ?_; rotate_left 1; focus (intro w hSw; unfold RsS at hSw; (try dsimp only at hSw); go_simp; try with_reducible rfl); (try simp only [List.getElem_toArray, List.getElem_cons_zero, List.getElem_cons_succ, Act.put, List.setIfInBounds_toArray, List.set_cons_zero, List.set_cons_succ])))
          refine wpAnyT_done (by kernel_rfl) ?_ _
          go_wp2_with fail
          go_returns
          exact split5_no hno.out (D7.out.step E1.out)
    · obtain rfl : j = n := by omega
      rw [Nat.sub_self] at hst
      by_cases hce : c = l.length
      · subst hce
        have hyes := hid (goP_end hst.out (List.drop_length ..))
        have c1 : ((l.length : Int) != (l.length : Int)) = false := by simp
        have hL := hid (hown.out.readL (S := Now wr) (fun b hb => (hown.out.lt b hb).2) (fun b hb => hb.2.1) (by have := hxl.out; omega))
        clear hst
        go_wp2_with fail
        go_returns
        exact split5_yes hyes.out hlow.out hL.out
      · have hno := hid (goP_more hst.out (fun h => hce (by have := congrArg List.length h; rw [List.length_drop, List.length_nil] at this; omega)))
        have c1 : ((c : Int) != (l.length : Int)) = true := by simp; omega
        clear hst
        go_wp2_with fail
        go_returns
        exact split5_no hno.out hlow.out
end Go.Proofs.YtihcegakghmdfaaDoor
