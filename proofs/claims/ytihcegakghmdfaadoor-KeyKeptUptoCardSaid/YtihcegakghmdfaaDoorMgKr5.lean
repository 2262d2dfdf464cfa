/-
  Walk: the reference's back: a value at a place.
  Walk: the reference's back, a number.
  Walk: the reference's back, a text.
-/
import Derived.Test.YtihcegakghmdfaaDoorMgKr3
import Derived.Test.YtihcegakghmdfaaDoorMgKey8
import Derived.Test.YtihcegakghmdfaaDoorMgHel
import Derived.Test.YtihcegakghmdfaaDoorMgKey10
namespace Go.Proofs.YtihcegakghmdfaaDoor
open Go.RowKit Go.Proofs
section
variable {p : List UInt8 → Option (PVal × Nat)} {k : UInt8} {r : List UInt8}
theorem headS_0 (h : k.toNat < 10 ∨ 60 < k.toNat ∨ k.toNat % 10 ≠ 0) : headK true p (k :: r) = none := by
  simp only [headK]
  rw [if_pos (by simp; omega)]
theorem headS_1 (h : k.toNat = 10) : headK true p (k :: r) = some (.mk 1 0 ByteArray.empty [] [] [], 1) := by
  simp only [headK]
  rw [if_neg (by simp; omega), if_pos (by omega)]
theorem headS_2 (h : k.toNat = 20) : headK true p (k :: r) = match r with
      | [] => none
      | d :: _ => some (.mk 2 d.toNat ByteArray.empty [] [] [], 2) := by
  simp only [headK]
  rw [if_neg (by simp; omega), if_neg (by omega), if_pos (by omega)]
  all_goals (cases r <;> rfl)
theorem headS_3 (h : k.toNat = 30) : headK true p (k :: r) = numG r := by
  simp only [headK]
  rw [if_neg (by simp; omega), if_neg (by omega), if_neg (by omega), if_pos (by omega)]
  rfl
theorem headS_4 (h : k.toNat = 40) : headK true p (k :: r) = match txtK true r with
      | none => none
      | some (t, c) => some (.mk 4 0 ⟨t.toArray⟩ [] [] [], 1 + c) := by
  simp only [headK]
  rw [if_neg (by simp; omega), if_neg (by omega), if_neg (by omega), if_neg (by omega), if_pos (by omega)]
  all_goals (cases txtK true r <;> rfl)
theorem headS_5 (h : k.toNat = 50) : headK true p (k :: r) = listG (listK true p (r.length + 1) r) := by
  simp only [headK]
  rw [if_neg (by simp; omega), if_neg (by omega), if_neg (by omega), if_neg (by omega), if_neg (by omega), if_pos (by omega)]
  unfold listG
  all_goals (cases listK true p (r.length + 1) r <;> rfl)
theorem headS_6 (h : k.toNat = 60) : headK true p (k :: r) = fieldsG (fieldsK true p (r.length + 1) r) := by
  simp only [headK]
  rw [if_neg (by simp; omega), if_neg (by omega), if_neg (by omega), if_neg (by omega), if_neg (by omega), if_neg (by omega)]
  unfold fieldsG
  all_goals (cases fieldsK true p (r.length + 1) r <;> rfl)
end
section
variable {G : Option (List PVal × Nat)} {xs : List PVal} {c f : Nat} {a : UInt8} {r l : List UInt8} {p : List UInt8 → Option (PVal × Nat)}
theorem goV_step (h : GoL G xs c (listK true p (f + 1) (1 :: r))) :
    match p r with
    | none => G = none
    | some (x, k) => GoL G (xs ++ [x]) (c + 1 + k) (listK true p f (r.drop k)) := by
  rw [listK, if_neg (by decide), if_neg (by simp)] at h
  cases hp : p r with
  | none => rw [hp] at h; exact h
  | some q =>
    obtain ⟨x, k⟩ := q
    rw [hp] at h
    simp only at h ⊢
    cases hl : listK true p f (r.drop k) with
    | none => rw [hl] at h; exact h
    | some q =>
      obtain ⟨ys, j⟩ := q
      rw [hl] at h
      show G = some ((xs ++ [x]) ++ ys, c + 1 + k + j)
      rw [show G = some (xs ++ (x :: ys), c + (1 + k + j)) from h]
      simp [Nat.add_assoc]
theorem goV_end (h : GoL G xs c (listK true p (f + 1) (a :: r))) (ha : a = 0) : G = some (xs, c + 1) := by
  rw [listK, if_pos ha] at h
  have : G = some (xs ++ [], c + 1) := h
  simpa using this
theorem goV_bad (h : GoL G xs c (listK true p (f + 1) (a :: r))) (h0 : a ≠ 0) (h1 : a ≠ 1) : G = none := by
  rw [listK, if_neg h0, if_pos ⟨rfl, h1⟩] at h
  exact h
theorem goV_nil (h : GoL G xs c (listK true p f [])) : G = none := by
  cases f <;> exact h
end
section
variable {G : Option ((List ByteArray × List PVal) × Nat)} {fs : Nfs} {c f : Nat} {a : UInt8} {r l : List UInt8} {p : List UInt8 → Option (PVal × Nat)}
theorem goW_step (h : GoF G fs c (fieldsK true p (f + 1) (1 :: r))) :
    match txtK true r with
    | none => G = none
    | some (t, i) => match p (r.drop i) with
      | none => G = none
      | some (x, k) => GoF G (fs ++ [((⟨t.toArray⟩ : ByteArray), x)]) (c + 1 + i + k) (fieldsK true p f (r.drop (i + k))) := by
  rw [fieldsK, if_neg (by decide), if_neg (by simp)] at h
  cases ht : txtK true r with
  | none => rw [ht] at h; exact h
  | some q =>
    obtain ⟨t, i⟩ := q
    rw [ht] at h
    simp only at h ⊢
    cases hp : p (r.drop i) with
    | none => rw [hp] at h; exact h
    | some q =>
      obtain ⟨x, k⟩ := q
      rw [hp] at h
      simp only at h ⊢
      cases hl : fieldsK true p f (r.drop (i + k)) with
      | none => rw [hl] at h; exact h
      | some q =>
        obtain ⟨⟨fn, fv⟩, j⟩ := q
        rw [hl] at h
        show G = some (((fs ++ [((⟨t.toArray⟩ : ByteArray), x)]).map Prod.fst ++ fn, (fs ++ [((⟨t.toArray⟩ : ByteArray), x)]).map Prod.snd ++ fv), c + 1 + i + k + j)
        rw [show G = some ((fs.map Prod.fst ++ (⟨t.toArray⟩ :: fn), fs.map Prod.snd ++ (x :: fv)), c + (1 + i + k + j)) from h]
        simp [Nat.add_assoc]
theorem goW_end (h : GoF G fs c (fieldsK true p (f + 1) (a :: r))) (ha : a = 0) : G = some ((fs.map Prod.fst, fs.map Prod.snd), c + 1) := by
  rw [fieldsK, if_pos ha] at h
  have : G = some ((fs.map Prod.fst ++ [], fs.map Prod.snd ++ []), c + 1) := h
  simpa using this
theorem goW_bad (h : GoF G fs c (fieldsK true p (f + 1) (a :: r))) (h0 : a ≠ 0) (h1 : a ≠ 1) : G = none := by
  rw [fieldsK, if_neg h0, if_pos ⟨rfl, h1⟩] at h
  exact h
theorem goW_nil (h : GoF G fs c (fieldsK true p f [])) : G = none := by
  cases f <;> exact h
end

/-- What back tells. -/
def Back5 (R : Option (PVal × Nat)) (p : Nat) (w : World) (e : Ending) (w' : World) : Prop :=
  Below w.heap.size w w' ∧ match R with
    | some (V, c) => ∃ cs, e = .returned (.tuple #[.agg cs.toArray, .int .i64 ((p + c : Nat) : Int), .bool true]) ∧ Rd w' (From w.heap.size w') V cs
    | none => ∃ (V : PVal) (cs : List Value) (z : Int), e = .returned (.tuple #[.agg cs.toArray, .int .i64 z, .bool false]) ∧ Rd w' (From w.heap.size w') V cs
theorem back5_none {R : Option (PVal × Nat)} {p : Nat} {w w' : World} {V : PVal} {cs : List Value} {z : Int} (hR : R = none) (hb : Below w.heap.size w w') (hr : Rd w' (From w.heap.size w') V cs) : Back5 R p w (.returned (.tuple #[.agg cs.toArray, .int .i64 z, .bool false])) w' := by
  subst hR
  exact ⟨hb, V, cs, z, rfl, hr⟩
theorem back5_some {R : Option (PVal × Nat)} {p c : Nat} {w w' : World} {V : PVal} {cs : List Value} {z : Int} (hR : R = some (V, c)) (hz : z = ((p + c : Nat) : Int)) (hb : Below w.heap.size w w') (hr : Rd w' (From w.heap.size w') V cs) : Back5 R p w (.returned (.tuple #[.agg cs.toArray, .int .i64 z, .bool true])) w' := by
  subst hR hz
  exact ⟨hb, cs, rfl, hr⟩

/-- The boxes of back: its result, the value of none, the value that is read (in block T). -/
structure KB (w : World) (T : Nat) (wr : World) (c10 : Array Value) : Prop where
  tl : T = w.heap.size + 2
  r6 : wr.heap[w.heap.size]? = some (.cells #[.int .i64 0, .int .i64 0, .string ⟨#[]⟩, .slice none 0 0, .slice none 0 0] 25 (0, 0))
  r9 : wr.heap[w.heap.size + 1]? = some (.cells #[.int .i64 0, .int .i64 0, .string ⟨#[]⟩, .slice none 0 0, .slice none 0 0] 25 (0, 0))
  r10 : wr.heap[T]? = some (.cells c10 25 (0, 0))
  low : Below w.heap.size w wr
section
variable {w wr w' : World} {T : Nat} {c10 : Array Value}
theorem KB.size (h : KB w T wr c10) : w.heap.size + 3 ≤ wr.heap.size := by have := lt_of_block h.r10; have := h.tl; omega
theorem KB.grow (h : KB w T wr c10) (hb : Below (w.heap.size + 3) wr w') : KB w T w' c10 :=
  ⟨h.tl, (hb.block _ (by omega)).trans h.r6, (hb.block _ (by omega)).trans h.r9, (hb.block _ (by have := h.tl; omega)).trans h.r10, h.low.trans (hb.mono (by omega))⟩
theorem KB.later (h : KB w T wr c10) (hb : Below wr.heap.size wr w') : KB w T w' c10 := h.grow (hb.mono h.size)
theorem KB.set (h : KB w T wr c10) (j : Nat) (u : Value) : KB w T (wr.setCell ⟨T, j, none⟩ u) (c10.setIfInBounds j u) :=
  ⟨h.tl, (Below.heap_setCell _ _ _ _ (by have := h.tl; simp; omega)).trans h.r6, (Below.heap_setCell _ _ _ _ (by have := h.tl; simp; omega)).trans h.r9, row_setCell h.r10, h.low.setCell (p := ⟨T, j, none⟩) (by have := h.tl; simp; omega) u⟩
theorem KB.ret (h : KB w T wr c10) (u0 u1 u2 u3 u4 : Value) : Below w.heap.size w (set5 wr w.heap.size u0 u1 u2 u3 u4) ∧ (set5 wr w.heap.size u0 u1 u2 u3 u4).heap[w.heap.size]? = some (.cells #[u0, u1, u2, u3, u4] 25 (0, 0)) ∧
    ∀ (V : PVal) (cs : List Value), Rd wr (From (w.heap.size + 1) wr) V cs → Rd (set5 wr w.heap.size u0 u1 u2 u3 u4) (From w.heap.size (set5 wr w.heap.size u0 u1 u2 u3 u4)) V cs :=
  ⟨set5_below h.low (Nat.le_refl _) _ _ _ _ _, set5_box h.r6, fun V cs hr => hr.keep (fun b hb => ⟨by have := hb.1; omega, by rw [set5_size]; exact hb.2⟩) (fun b hb => set5_other _ _ _ _ _ _ _ (by have := hb.1; omega))⟩
end

set_option maxRecDepth 100000 in
set_option maxHeartbeats 2000000 in
theorem rback5_nul {l : List UInt8} {bv : Value} (hl : l.length ≤ 17179869184) (d : Nat) (hd : d ≤ 9) (pR : List UInt8 → Option (PVal × Nat)) {w : World} (p : Nat) (hb : BytesAt w (Now w) l bv) (_hp : p ≤ l.length) (R : Option (PVal × Nat)) (hR : R = headK true pR (l.drop p)) (k : UInt8) (hk : l[p]? = some k) (hz : 10 = k.toNat) :
    Calls Tryd.prog 65 #[bv, .int .i64 p, .int .i64 d] w (Back5 R p w) := by
  have hb0 := hid hb
  replace hR := hid hR
  obtain ⟨a, cap, rfl, hc1, hc2, _⟩ := hb
  have d9 : decide (9 < (d : Int)) = false := decide_eq_false (by omega)
  have d9' : ¬ 9 < (d : Int) := by omega
  obtain ⟨W2, hW2⟩ : ∃ W2, W2 = (w.alloc (.cells #[.int .i64 0, .int .i64 0, .string ⟨#[]⟩, .slice none 0 0, .slice none 0 0] 25)).alloc (.cells #[.int .i64 0, .int .i64 0, .string ⟨#[]⟩, .slice none 0 0, .slice none 0 0] 25) := ⟨_, rfl⟩
  have D2 : Hid (Below w.heap.size w W2) := by show Below _ _ _; rw [hW2]; exact (below_new _ _).step (below_new _ _)
  have q6 : Hid (W2.heap[w.heap.size]? = some (.cells #[.int .i64 0, .int .i64 0, .string ⟨#[]⟩, .slice none 0 0, .slice none 0 0] 25 (0, 0))) := by rw [hW2]; exact al_old (al_at rfl)
  have q9 : Hid (W2.heap[w.heap.size + 1]? = some (.cells #[.int .i64 0, .int .i64 0, .string ⟨#[]⟩, .slice none 0 0, .slice none 0 0] 25 (0, 0))) := by rw [hW2]; exact al_at (by simp)
  have hkn : Hid (∀ k : Int, KB w W2.heap.size (W2.alloc (.cells #[.int .i64 k, .int .i64 0, .string ⟨#[]⟩, .slice none 0 0, .slice none 0 0] 25)) #[.int .i64 k, .int .i64 0, .string ⟨#[]⟩, .slice none 0 0, .slice none 0 0]) := fun k =>
    ⟨by rw [hW2]; simp, al_old q6.out, al_old q9.out, al_at rfl, D2.out.step (below_new _ _)⟩
  have hsz2 : Hid (W2.heap.size = w.heap.size + 1 + 1) := by show _ = _; rw [hW2]; simp
  have hlt : p < l.length := (List.getElem?_eq_some_iff.1 hk).1
  obtain ⟨b, off, rfl, hbS, hcell⟩ := bytes_cells hb0.out (fun h => by rw [h] at hlt; simp at hlt)
  have hcW : Hid (∀ (w' : World), Below w.heap.size w w' → ∀ (j : Nat) (c : UInt8), l[j]? = some c → w'.cell? ⟨b, off + j, none⟩ = some (.int .u8 c.toNat)) := fun w' h j c hc => (h.cell (p := ⟨b, _, none⟩) hbS).trans (hcell j c hc)
  have hdr : l.drop p = k :: l.drop (p + 1) := by rw [List.drop_eq_getElem_cons hlt, (List.getElem?_eq_some_iff.1 hk).2]
  have hcx := hcW.out W2 D2.out p k hk
  rw [hdr] at hR
  have i0 : (0 : Int) ≤ (p : Int) := by omega
  have i1 : (p : Int) < (l.length : Int) := by omega
  have i2 : ¬ (l.length : Int) ≤ (p : Int) := by omega
  have i2' : decide ((l.length : Int) ≤ (p : Int)) = false := decide_eq_false i2
  obtain ⟨z, hz0⟩ : ∃ z, z = k.toNat := ⟨_, rfl⟩
  rw [← hz0] at hcx
  have e5 : IntKind.i64.wrap ((p : Int) + 1) = ((p + 1 : Nat) : Int) := by rw [IntWalk.i64_in _ (by omega)]; omega
  have hzK : z = 10 := hz0.trans hz.symm
  have ez : IntKind.i64.wrap (z : Int) = z := IntWalk.i64_in _ (by omega)
  have j1 : decide ((z : Int) < 10) = false := decide_eq_false (by omega)
  have j1' : ¬ (z : Int) < 10 := by omega
  have j2 : decide (60 < (z : Int)) = false := decide_eq_false (by omega)
  have j2' : ¬ 60 < (z : Int) := by omega
  have j3 : Int.tdiv (z : Int) 10 = 1 := by rw [Int.tdiv_eq_ediv_of_nonneg (by omega)]; omega
  have j3' : (z : Int) / 10 = 1 := by omega
  have j4 : Int.tmod (z : Int) 10 = 0 := by rw [Int.tmod_eq_emod_of_nonneg (by omega)]; omega
  have j4' : (z : Int) % 10 = 0 := by omega
  clear hcell hdr hk hz0 hzK
  have hRR := hid (hR.out.trans (headS_1 hz.symm))
  clear hz
  go_enter Tryd.func65, Tryd.ntmps65
  go_upto_region 2 with fail
  rw [← hW2]
  clear hW2
  go_upto_region 5 with fail
  obtain ⟨w4, hw4⟩ : ∃ w4, w4 = W2.alloc (.cells #[.int .i64 1, .int .i64 0, .string ⟨#[]⟩, .slice none 0 0, .slice none 0 0] 25) := ⟨_, rfl⟩
  have hk4 : Hid (KB w W2.heap.size w4 #[.int .i64 1, .int .i64 0, .string ⟨#[]⟩, .slice none 0 0, .slice none 0 0]) := by rw [hw4]; exact hkn.out 1
  rw [← hw4]
  clear hw4 hkn q6 q9 hcx hsz2
  have c0 := box_at (j := 0) hk4.out.r10 rfl
  have g0 := box_at (j := 0) hk4.out.r6 rfl
  have g1 := box_at (j := 1) hk4.out.r6 rfl
  have g2 := box_at (j := 2) hk4.out.r6 rfl
  have g3 := box_at (j := 3) hk4.out.r6 rfl
  have g4 := box_at (j := 4) hk4.out.r6 rfl
  have gf := box_free hk4.out.r6
  have h0 := c0
  clear c0
  have h1 := box_at (j := 1) hk4.out.r10 rfl
  have h2 := box_at (j := 2) hk4.out.r10 rfl
  have h3 := box_at (j := 3) hk4.out.r10 rfl
  have h4 := box_at (j := 4) hk4.out.r10 rfl
  go_wp2_with fail
  have hret := hid (hk4.out.ret (.int .i64 1) (.int .i64 0) (.string ⟨#[]⟩) (.slice none 0 0) (.slice none 0 0))
  unfold set5 at hret
  clear g0 g1 g2 g3 g4 gf h0 h1 h2 h3 h4
  generalize ((((w4.setCell ⟨w.heap.size, 0, none⟩ (.int .i64 1)).setCell ⟨w.heap.size, 1, none⟩ (.int .i64 0)).setCell ⟨w.heap.size, 2, none⟩ (.string ⟨#[]⟩)).setCell ⟨w.heap.size, 3, none⟩ (.slice none 0 0)).setCell ⟨w.heap.size, 4, none⟩ (.slice none 0 0) = w9 at *
  have z0 := box_at (j := 0) hret.out.2.1 rfl
  have z1 := box_at (j := 1) hret.out.2.1 rfl
  have z2 := box_at (j := 2) hret.out.2.1 rfl
  have z3 := box_at (j := 3) hret.out.2.1 rfl
  have z4 := box_at (j := 4) hret.out.2.1 rfl
  refine ⟨rfl, .tuple #[.agg #[.int .i64 1, .int .i64 0, .string ⟨#[]⟩, .slice none 0 0, .slice none 0 0], .int .i64 ((p + 1 : Nat) : Int), .bool true], by simp [results, Tryd.results65, go_sem, z0, z1, z2, z3, z4], ?_⟩
  exact back5_some hRR.out rfl hret.out.1 (cs := [.int .i64 1, .int .i64 0, .string ⟨#[]⟩, .slice none 0 0, .slice none 0 0]) (hret.out.2.2 _ _ (rd_atomK ⟨by decide, by decide⟩ ⟨by decide, by decide⟩ (by decide)))
set_option maxRecDepth 100000 in
set_option maxHeartbeats 2000000 in
theorem rback5_bool {l : List UInt8} {bv : Value} (hl : l.length ≤ 17179869184) (d : Nat) (hd : d ≤ 9) (pR : List UInt8 → Option (PVal × Nat)) {w : World} (p : Nat) (hb : BytesAt w (Now w) l bv) (_hp : p ≤ l.length) (R : Option (PVal × Nat)) (hR : R = headK true pR (l.drop p)) (k : UInt8) (hk : l[p]? = some k) (hz : 20 = k.toNat) :
    Calls Tryd.prog 65 #[bv, .int .i64 p, .int .i64 d] w (Back5 R p w) := by
  have hb0 := hid hb
  replace hR := hid hR
  obtain ⟨a, cap, rfl, hc1, hc2, _⟩ := hb
  have d9 : decide (9 < (d : Int)) = false := decide_eq_false (by omega)
  have d9' : ¬ 9 < (d : Int) := by omega
  obtain ⟨W2, hW2⟩ : ∃ W2, W2 = (w.alloc (.cells #[.int .i64 0, .int .i64 0, .string ⟨#[]⟩, .slice none 0 0, .slice none 0 0] 25)).alloc (.cells #[.int .i64 0, .int .i64 0, .string ⟨#[]⟩, .slice none 0 0, .slice none 0 0] 25) := ⟨_, rfl⟩
  have D2 : Hid (Below w.heap.size w W2) := by show Below _ _ _; rw [hW2]; exact (below_new _ _).step (below_new _ _)
  have q6 : Hid (W2.heap[w.heap.size]? = some (.cells #[.int .i64 0, .int .i64 0, .string ⟨#[]⟩, .slice none 0 0, .slice none 0 0] 25 (0, 0))) := by rw [hW2]; exact al_old (al_at rfl)
  have q9 : Hid (W2.heap[w.heap.size + 1]? = some (.cells #[.int .i64 0, .int .i64 0, .string ⟨#[]⟩, .slice none 0 0, .slice none 0 0] 25 (0, 0))) := by rw [hW2]; exact al_at (by simp)
  have hkn : Hid (∀ k : Int, KB w W2.heap.size (W2.alloc (.cells #[.int .i64 k, .int .i64 0, .string ⟨#[]⟩, .slice none 0 0, .slice none 0 0] 25)) #[.int .i64 k, .int .i64 0, .string ⟨#[]⟩, .slice none 0 0, .slice none 0 0]) := fun k =>
    ⟨by rw [hW2]; simp, al_old q6.out, al_old q9.out, al_at rfl, D2.out.step (below_new _ _)⟩
  have hsz2 : Hid (W2.heap.size = w.heap.size + 1 + 1) := by show _ = _; rw [hW2]; simp
  have hlt : p < l.length := (List.getElem?_eq_some_iff.1 hk).1
  obtain ⟨b, off, rfl, hbS, hcell⟩ := bytes_cells hb0.out (fun h => by rw [h] at hlt; simp at hlt)
  have hcW : Hid (∀ (w' : World), Below w.heap.size w w' → ∀ (j : Nat) (c : UInt8), l[j]? = some c → w'.cell? ⟨b, off + j, none⟩ = some (.int .u8 c.toNat)) := fun w' h j c hc => (h.cell (p := ⟨b, _, none⟩) hbS).trans (hcell j c hc)
  have hdr : l.drop p = k :: l.drop (p + 1) := by rw [List.drop_eq_getElem_cons hlt, (List.getElem?_eq_some_iff.1 hk).2]
  have hcx := hcW.out W2 D2.out p k hk
  rw [hdr] at hR
  have i0 : (0 : Int) ≤ (p : Int) := by omega
  have i1 : (p : Int) < (l.length : Int) := by omega
  have i2 : ¬ (l.length : Int) ≤ (p : Int) := by omega
  have i2' : decide ((l.length : Int) ≤ (p : Int)) = false := decide_eq_false i2
  obtain ⟨z, hz0⟩ : ∃ z, z = k.toNat := ⟨_, rfl⟩
  rw [← hz0] at hcx
  have e5 : IntKind.i64.wrap ((p : Int) + 1) = ((p + 1 : Nat) : Int) := by rw [IntWalk.i64_in _ (by omega)]; omega
  have hzK : z = 20 := hz0.trans hz.symm
  have ez : IntKind.i64.wrap (z : Int) = z := IntWalk.i64_in _ (by omega)
  have j1 : decide ((z : Int) < 10) = false := decide_eq_false (by omega)
  have j1' : ¬ (z : Int) < 10 := by omega
  have j2 : decide (60 < (z : Int)) = false := decide_eq_false (by omega)
  have j2' : ¬ 60 < (z : Int) := by omega
  have j3 : Int.tdiv (z : Int) 10 = 2 := by rw [Int.tdiv_eq_ediv_of_nonneg (by omega)]; omega
  have j3' : (z : Int) / 10 = 2 := by omega
  have j4 : Int.tmod (z : Int) 10 = 0 := by rw [Int.tmod_eq_emod_of_nonneg (by omega)]; omega
  have j4' : (z : Int) % 10 = 0 := by omega
  clear hcell hdr hk hz0 hzK
  have hRR := hR.out.trans (headS_2 hz.symm)
  by_cases hend2 : p + 1 = l.length
  · rw [List.drop_eq_nil_of_le (by omega)] at hRR
    replace hRR := hid hRR
    have i3 : (l.length : Int) ≤ ((p + 1 : Nat) : Int) := by omega
    have i3' : (l.length : Int) ≤ (p : Int) + 1 := by omega
    clear hz
    go_enter Tryd.func65, Tryd.ntmps65
    go_upto_region 2 with fail
    rw [← hW2]
    clear hW2
    go_upto_region 5 with fail
    obtain ⟨w4, hw4⟩ : ∃ w4, w4 = W2.alloc (.cells #[.int .i64 2, .int .i64 0, .string ⟨#[]⟩, .slice none 0 0, .slice none 0 0] 25) := ⟨_, rfl⟩
    have hk4 : Hid (KB w W2.heap.size w4 #[.int .i64 2, .int .i64 0, .string ⟨#[]⟩, .slice none 0 0, .slice none 0 0]) := by rw [hw4]; exact hkn.out 2
    rw [← hw4]
    clear hw4 hkn q6 q9 hcx hsz2
    have c0 := box_at (j := 0) hk4.out.r10 rfl
    have g0 := box_at (j := 0) hk4.out.r6 rfl
    have g1 := box_at (j := 1) hk4.out.r6 rfl
    have g2 := box_at (j := 2) hk4.out.r6 rfl
    have g3 := box_at (j := 3) hk4.out.r6 rfl
    have g4 := box_at (j := 4) hk4.out.r6 rfl
    have gf := box_free hk4.out.r6
    have h0 := box_at (j := 0) hk4.out.r9 rfl
    have h1 := box_at (j := 1) hk4.out.r9 rfl
    have h2 := box_at (j := 2) hk4.out.r9 rfl
    have h3 := box_at (j := 3) hk4.out.r9 rfl
    have h4 := box_at (j := 4) hk4.out.r9 rfl
    go_wp2_with fail
    have hret := hid (hk4.out.ret (.int .i64 0) (.int .i64 0) (.string ⟨#[]⟩) (.slice none 0 0) (.slice none 0 0))
    unfold set5 at hret
    clear g0 g1 g2 g3 g4 gf h0 h1 h2 h3 h4
    generalize ((((w4.setCell ⟨w.heap.size, 0, none⟩ (.int .i64 0)).setCell ⟨w.heap.size, 1, none⟩ (.int .i64 0)).setCell ⟨w.heap.size, 2, none⟩ (.string ⟨#[]⟩)).setCell ⟨w.heap.size, 3, none⟩ (.slice none 0 0)).setCell ⟨w.heap.size, 4, none⟩ (.slice none 0 0) = w9 at *
    have z0 := box_at (j := 0) hret.out.2.1 rfl
    have z1 := box_at (j := 1) hret.out.2.1 rfl
    have z2 := box_at (j := 2) hret.out.2.1 rfl
    have z3 := box_at (j := 3) hret.out.2.1 rfl
    have z4 := box_at (j := 4) hret.out.2.1 rfl
    refine ⟨rfl, .tuple #[.agg #[.int .i64 0, .int .i64 0, .string ⟨#[]⟩, .slice none 0 0, .slice none 0 0], .int .i64 0, .bool false], by simp [results, Tryd.results65, go_sem, z0, z1, z2, z3, z4], ?_⟩
    exact back5_none hRR.out hret.out.1 (V := zeroK) (cs := [.int .i64 0, .int .i64 0, .string ⟨#[]⟩, .slice none 0 0, .slice none 0 0]) rd_zeroK
  · have hlt2 : p + 1 < l.length := by omega
    obtain ⟨y, hy⟩ : ∃ y, l[p + 1]? = some y := ⟨_, List.getElem?_eq_getElem hlt2⟩
    rw [List.drop_eq_getElem_cons hlt2, (List.getElem?_eq_some_iff.1 hy).2] at hRR
    simp only at hRR
    replace hRR := hid hRR
    have hy8 := y.toNat_lt
    have i3 : ¬ (l.length : Int) ≤ ((p + 1 : Nat) : Int) := by omega
    have i3' : ¬ (l.length : Int) ≤ (p : Int) + 1 := by omega
    have i4 : (p : Int) + 1 < (l.length : Int) := by omega
    have i5 : (0 : Int) ≤ (p : Int) + 1 := by omega
    have e6 : IntKind.i64.wrap (((p + 1 : Nat) : Int) + 1) = ((p + 2 : Nat) : Int) := by rw [IntWalk.i64_in _ (by omega)]; omega
    have e6' : IntKind.i64.wrap ((p : Int) + 1 + 1) = ((p + 2 : Nat) : Int) := by rw [IntWalk.i64_in _ (by omega)]; omega
    have ey : IntKind.i64.wrap (y.toNat : Int) = y.toNat := IntWalk.i64_in _ (by omega)
    have tn : ((p : Int) + 1).toNat = p + 1 := by omega
    clear hz
    go_enter Tryd.func65, Tryd.ntmps65
    go_upto_region 2 with fail
    rw [← hW2]
    clear hW2
    go_upto_region 5 with fail
    obtain ⟨w4, hw4⟩ : ∃ w4, w4 = W2.alloc (.cells #[.int .i64 2, .int .i64 0, .string ⟨#[]⟩, .slice none 0 0, .slice none 0 0] 25) := ⟨_, rfl⟩
    have hk4 : Hid (KB w W2.heap.size w4 #[.int .i64 2, .int .i64 0, .string ⟨#[]⟩, .slice none 0 0, .slice none 0 0]) := by rw [hw4]; exact hkn.out 2
    rw [← hw4]
    clear hw4 hkn q6 q9 hcx hsz2
    have c0 := box_at (j := 0) hk4.out.r10 rfl
    have hcy := hcW.out w4 hk4.out.low (p + 1) y hy
    have c1 := box_at (j := 1) hk4.out.r10 rfl
    have fz := box_free hk4.out.r10 1
    clear hend2
    go_upto_region 13 with fail
    have hk5 := hid (hk4.out.set 1 (.int .i64 y.toNat))
    clear c0 c1 fz hcy
    generalize w4.setCell ⟨W2.heap.size, 1, none⟩ (.int .i64 (y.toNat : Int)) = w5 at *
    replace hk5 : Hid (KB w W2.heap.size w5 #[.int .i64 2, .int .i64 y.toNat, .string ⟨#[]⟩, .slice none 0 0, .slice none 0 0]) := hk5
    have g0 := box_at (j := 0) hk5.out.r6 rfl
    have g1 := box_at (j := 1) hk5.out.r6 rfl
    have g2 := box_at (j := 2) hk5.out.r6 rfl
    have g3 := box_at (j := 3) hk5.out.r6 rfl
    have g4 := box_at (j := 4) hk5.out.r6 rfl
    have gf := box_free hk5.out.r6
    have h0 := box_at (j := 0) hk5.out.r10 rfl
    have h1 := box_at (j := 1) hk5.out.r10 rfl
    have h2 := box_at (j := 2) hk5.out.r10 rfl
    have h3 := box_at (j := 3) hk5.out.r10 rfl
    have h4 := box_at (j := 4) hk5.out.r10 rfl
    go_wp2_with fail
    have hret := hid (hk5.out.ret (.int .i64 2) (.int .i64 y.toNat) (.string ⟨#[]⟩) (.slice none 0 0) (.slice none 0 0))
    unfold set5 at hret
    clear g0 g1 g2 g3 g4 gf h0 h1 h2 h3 h4
    generalize ((((w5.setCell ⟨w.heap.size, 0, none⟩ (.int .i64 2)).setCell ⟨w.heap.size, 1, none⟩ (.int .i64 y.toNat)).setCell ⟨w.heap.size, 2, none⟩ (.string ⟨#[]⟩)).setCell ⟨w.heap.size, 3, none⟩ (.slice none 0 0)).setCell ⟨w.heap.size, 4, none⟩ (.slice none 0 0) = w9 at *
    have z0 := box_at (j := 0) hret.out.2.1 rfl
    have z1 := box_at (j := 1) hret.out.2.1 rfl
    have z2 := box_at (j := 2) hret.out.2.1 rfl
    have z3 := box_at (j := 3) hret.out.2.1 rfl
    have z4 := box_at (j := 4) hret.out.2.1 rfl
    refine ⟨rfl, .tuple #[.agg #[.int .i64 2, .int .i64 y.toNat, .string ⟨#[]⟩, .slice none 0 0, .slice none 0 0], .int .i64 ((p + 2 : Nat) : Int), .bool true], by simp [results, Tryd.results65, go_sem, z0, z1, z2, z3, z4], ?_⟩
    exact back5_some hRR.out rfl hret.out.1 (cs := [.int .i64 2, .int .i64 y.toNat, .string ⟨#[]⟩, .slice none 0 0, .slice none 0 0]) (hret.out.2.2 _ _ (rd_atomK ⟨by decide, by decide⟩ (by unfold I64; omega) (by decide)))
end Go.Proofs.YtihcegakghmdfaaDoor

namespace Go.Proofs.YtihcegakghmdfaaDoor
open Go.RowKit Go.Proofs
set_option maxRecDepth 100000 in
set_option maxHeartbeats 2000000 in
theorem rback5_num {l : List UInt8} {bv : Value} (hl : l.length ≤ 17179869184) (d : Nat) (hd : d ≤ 9) (pR : List UInt8 → Option (PVal × Nat)) {w : World} (p : Nat) (hb : BytesAt w (Now w) l bv) (_hp : p ≤ l.length) (R : Option (PVal × Nat)) (hR : R = headK true pR (l.drop p)) (k : UInt8) (hk : l[p]? = some k) (hz : 30 = k.toNat) :
    Calls Tryd.prog 65 #[bv, .int .i64 p, .int .i64 d] w (Back5 R p w) := by
  have hb0 := hid hb
  replace hR := hid hR
  obtain ⟨a, cap, rfl, hc1, hc2, _⟩ := hb
  have e9 : IntKind.i64.wrap ((d : Int) + 1) = (d : Int) + 1 := IntWalk.i64_in _ (by omega)
  have d9 : decide (9 < (d : Int)) = false := decide_eq_false (by omega)
  have d9' : ¬ 9 < (d : Int) := by omega
  obtain ⟨W2, hW2⟩ : ∃ W2, W2 = (w.alloc (.cells #[.int .i64 0, .int .i64 0, .string ⟨#[]⟩, .slice none 0 0, .slice none 0 0] 25)).alloc (.cells #[.int .i64 0, .int .i64 0, .string ⟨#[]⟩, .slice none 0 0, .slice none 0 0] 25) := ⟨_, rfl⟩
  have D2 : Hid (Below w.heap.size w W2) := by show Below _ _ _; rw [hW2]; exact (below_new _ _).step (below_new _ _)
  have q6 : Hid (W2.heap[w.heap.size]? = some (.cells #[.int .i64 0, .int .i64 0, .string ⟨#[]⟩, .slice none 0 0, .slice none 0 0] 25 (0, 0))) := by rw [hW2]; exact al_old (al_at rfl)
  have q9 : Hid (W2.heap[w.heap.size + 1]? = some (.cells #[.int .i64 0, .int .i64 0, .string ⟨#[]⟩, .slice none 0 0, .slice none 0 0] 25 (0, 0))) := by rw [hW2]; exact al_at (by simp)
  have hkn : Hid (∀ k : Int, KB w W2.heap.size (W2.alloc (.cells #[.int .i64 k, .int .i64 0, .string ⟨#[]⟩, .slice none 0 0, .slice none 0 0] 25)) #[.int .i64 k, .int .i64 0, .string ⟨#[]⟩, .slice none 0 0, .slice none 0 0]) := fun k =>
    ⟨by rw [hW2]; simp, al_old q6.out, al_old q9.out, al_at rfl, D2.out.step (below_new _ _)⟩
  have hsz2 : Hid (W2.heap.size = w.heap.size + 1 + 1) := by show _ = _; rw [hW2]; simp
  have hlt : p < l.length := (List.getElem?_eq_some_iff.1 hk).1
  obtain ⟨b, off, rfl, hbS, hcell⟩ := bytes_cells hb0.out (fun h => by rw [h] at hlt; simp at hlt)
  have hcW : Hid (∀ (w' : World), Below w.heap.size w w' → ∀ (j : Nat) (c : UInt8), l[j]? = some c → w'.cell? ⟨b, off + j, none⟩ = some (.int .u8 c.toNat)) := fun w' h j c hc => (h.cell (p := ⟨b, _, none⟩) hbS).trans (hcell j c hc)
  have hdr : l.drop p = k :: l.drop (p + 1) := by rw [List.drop_eq_getElem_cons hlt, (List.getElem?_eq_some_iff.1 hk).2]
  have hcx := hcW.out W2 D2.out p k hk
  rw [hdr] at hR
  have i0 : (0 : Int) ≤ (p : Int) := by omega
  have i1 : (p : Int) < (l.length : Int) := by omega
  have i2 : ¬ (l.length : Int) ≤ (p : Int) := by omega
  have i2' : decide ((l.length : Int) ≤ (p : Int)) = false := decide_eq_false i2
  obtain ⟨z, hz0⟩ : ∃ z, z = k.toNat := ⟨_, rfl⟩
  rw [← hz0] at hcx
  have e5 : IntKind.i64.wrap ((p : Int) + 1) = ((p + 1 : Nat) : Int) := by rw [IntWalk.i64_in _ (by omega)]; omega
  have hzK : z = 30 := hz0.trans hz.symm
  have ez : IntKind.i64.wrap (z : Int) = z := IntWalk.i64_in _ (by omega)
  have j1 : decide ((z : Int) < 10) = false := decide_eq_false (by omega)
  have j1' : ¬ (z : Int) < 10 := by omega
  have j2 : decide (60 < (z : Int)) = false := decide_eq_false (by omega)
  have j2' : ¬ 60 < (z : Int) := by omega
  have j3 : Int.tdiv (z : Int) 10 = 3 := by rw [Int.tdiv_eq_ediv_of_nonneg (by omega)]; omega
  have j3' : (z : Int) / 10 = 3 := by omega
  have j4 : Int.tmod (z : Int) 10 = 0 := by rw [Int.tmod_eq_emod_of_nonneg (by omega)]; omega
  have j4' : (z : Int) % 10 = 0 := by omega
  clear hcell hdr hk hz0 hzK
  have hRR := hid (hR.out.trans (headS_3 hz.symm))
  obtain ⟨S, hS⟩ : ∃ S, S = l.drop (p + 1) := ⟨_, rfl⟩
  have hSl : S.length = l.length - (p + 1) := by rw [hS, List.length_drop]
  have hSj : Hid (∀ j : Nat, S[j]? = l[p + 1 + j]?) := fun j => by rw [hS, List.getElem?_drop]
  rw [← hS] at hRR
  clear hS
  have e6 : IntKind.i64.wrap (((p + 1 : Nat) : Int) + 8) = ((p + 9 : Nat) : Int) := by rw [IntWalk.i64_in _ (by omega)]; omega
  have e6' : IntKind.i64.wrap ((p : Int) + 1 + 8) = ((p + 9 : Nat) : Int) := by rw [IntWalk.i64_in _ (by omega)]; omega
  by_cases h8 : l.length < p + 9
  · have hno : Hid (R = none) := by show _ = _; rw [hRR.out, numG, if_pos (by omega)]
    have i3 : (l.length : Int) < ((p + 9 : Nat) : Int) := by omega
    have i3' : (l.length : Int) < (p : Int) + 9 := by omega
    clear hSl hSj
    clear hz
    go_enter Tryd.func65, Tryd.ntmps65
    go_upto_region 2 with fail
    rw [← hW2]
    clear hW2
    go_upto_region 5 with fail
    obtain ⟨w4, hw4⟩ : ∃ w4, w4 = W2.alloc (.cells #[.int .i64 3, .int .i64 0, .string ⟨#[]⟩, .slice none 0 0, .slice none 0 0] 25) := ⟨_, rfl⟩
    have hk4 : Hid (KB w W2.heap.size w4 #[.int .i64 3, .int .i64 0, .string ⟨#[]⟩, .slice none 0 0, .slice none 0 0]) := by rw [hw4]; exact hkn.out 3
    rw [← hw4]
    clear hw4 hkn q6 q9 hcx hsz2
    have c0 := box_at (j := 0) hk4.out.r10 rfl
    have g0 := box_at (j := 0) hk4.out.r6 rfl
    have g1 := box_at (j := 1) hk4.out.r6 rfl
    have g2 := box_at (j := 2) hk4.out.r6 rfl
    have g3 := box_at (j := 3) hk4.out.r6 rfl
    have g4 := box_at (j := 4) hk4.out.r6 rfl
    have gf := box_free hk4.out.r6
    have h0 := box_at (j := 0) hk4.out.r9 rfl
    have h1 := box_at (j := 1) hk4.out.r9 rfl
    have h2 := box_at (j := 2) hk4.out.r9 rfl
    have h3 := box_at (j := 3) hk4.out.r9 rfl
    have h4 := box_at (j := 4) hk4.out.r9 rfl
    go_wp2_with fail
    have hret := hid (hk4.out.ret (.int .i64 0) (.int .i64 0) (.string ⟨#[]⟩) (.slice none 0 0) (.slice none 0 0))
    unfold set5 at hret
    clear g0 g1 g2 g3 g4 gf h0 h1 h2 h3 h4
    generalize ((((w4.setCell ⟨w.heap.size, 0, none⟩ (.int .i64 0)).setCell ⟨w.heap.size, 1, none⟩ (.int .i64 0)).setCell ⟨w.heap.size, 2, none⟩ (.string ⟨#[]⟩)).setCell ⟨w.heap.size, 3, none⟩ (.slice none 0 0)).setCell ⟨w.heap.size, 4, none⟩ (.slice none 0 0) = w9 at *
    have z0 := box_at (j := 0) hret.out.2.1 rfl
    have z1 := box_at (j := 1) hret.out.2.1 rfl
    have z2 := box_at (j := 2) hret.out.2.1 rfl
    have z3 := box_at (j := 3) hret.out.2.1 rfl
    have z4 := box_at (j := 4) hret.out.2.1 rfl
    refine ⟨rfl, .tuple #[.agg #[.int .i64 0, .int .i64 0, .string ⟨#[]⟩, .slice none 0 0, .slice none 0 0], .int .i64 0, .bool false], by simp [results, Tryd.results65, go_sem, z0, z1, z2, z3, z4], ?_⟩
    exact back5_none hno.out hret.out.1 (V := zeroK) (cs := [.int .i64 0, .int .i64 0, .string ⟨#[]⟩, .slice none 0 0, .slice none 0 0]) rd_zeroK
  have i3 : ¬ (l.length : Int) < ((p + 9 : Nat) : Int) := by omega
  have i3' : ¬ (l.length : Int) < (p : Int) + 9 := by omega
  clear hz
  go_enter Tryd.func65, Tryd.ntmps65
  go_upto_region 2 with fail
  rw [← hW2]
  clear hW2
  go_upto_region 5 with fail
  obtain ⟨w4, hw4⟩ : ∃ w4, w4 = W2.alloc (.cells #[.int .i64 3, .int .i64 0, .string ⟨#[]⟩, .slice none 0 0, .slice none 0 0] 25) := ⟨_, rfl⟩
  have hk4 : Hid (KB w W2.heap.size w4 #[.int .i64 3, .int .i64 0, .string ⟨#[]⟩, .slice none 0 0, .slice none 0 0]) := by rw [hw4]; exact hkn.out 3
  rw [← hw4]
  clear hw4 hkn q6 q9 hcx hsz2
  have c0 := box_at (j := 0) hk4.out.r10 rfl
  go_wp2_with fail
  go_loopg [11, 12] 8 (fun gh s11 s12 wr => ∃ (j : Nat), gh + j = 8 ∧ s12 = .int .i64 j ∧ s11 = .int .u64 (of8 (S.take j) : Nat) ∧ wr = w4)
  case atStart => exact ⟨0, by omega, rfl, rfl, rfl⟩
  case round =>
    obtain ⟨j, hj, rfl, rfl, rfl⟩ := hrel
    have hb8 := of8_bound (S.take j)
    rw [List.length_take, Nat.min_eq_left (by omega)] at hb8
    by_cases hlt8 : j < 8
    · have hb56 : of8 (S.take j) < 72057594037927936 := Nat.lt_of_lt_of_le hb8 (Nat.le_trans (Nat.pow_le_pow_right (by omega) (by omega : j ≤ 7)) (by decide))
      clear hb8
      have hlj : p + 1 + j < l.length := by omega
      obtain ⟨y, hy⟩ : ∃ y, l[p + 1 + j]? = some y := ⟨_, List.getElem?_eq_getElem hlj⟩
      have h8 := hid (of8_succ ((hSj.out j).trans hy))
      have hcy := hcW.out _ hk4.out.low _ _ hy
      have hor := or_low hb56 y.toNat_lt
      have hbt := y.toNat_lt
      clear hy hlj
      generalize of8 (S.take j) = N at *
      have k0 : (0 : Int) ≤ (p : Int) + 1 + (j : Int) := by omega
      have k1 : (p : Int) + 1 + (j : Int) < (l.length : Int) := by omega
      have tn : ((p : Int) + 1 + (j : Int)).toNat = p + 1 + j := by omega
      have e7 : IntKind.i64.wrap (((p + 1 : Nat) : Int) + (j : Int)) = ((p + 1 + j : Nat) : Int) := by rw [IntWalk.i64_in _ (by omega)]; omega
      have e7' : IntKind.i64.wrap ((p : Int) + 1 + (j : Int)) = ((p + 1 + j : Nat) : Int) := by rw [IntWalk.i64_in _ (by omega)]; omega
      have e1 : IntKind.u64.wrap ((y.toNat : Int)) = y.toNat := by rw [IntKind.wrap_u64]; omega
      have e2 : IntKind.u64.wrap ((N : Int) * 256) = ((N * 256 : Nat) : Int) := by rw [IntKind.wrap_u64]; omega
      go_wp2_with fail
      go_roundg (8 - (j + 1))
      case measure => omega
      case rel => exact ⟨j + 1, by omega, by go_num, by rw [h8.out]; exact congrArg (Value.int .u64) hor, rfl⟩
    · obtain rfl : j = 8 := by omega
      have hno : Hid (R = some (.mk 3 ((of8 (S.take 8) : Int) - 9223372036854775808) ByteArray.empty [] [] [], 9)) := by
        show _ = _
        rw [hRR.out, numG, if_neg (by omega)]
      have hxb := xor_back8 (n := of8 (S.take 8)) (by simpa using hb8)
      have hNI : Hid (I64 ((of8 (S.take 8) : Int) - 9223372036854775808)) := by show I64 _; have h1 : of8 (S.take 8) < 18446744073709551616 := by simpa using hb8
                                                                                unfold I64; omega
      clear hb8
      generalize of8 (S.take 8) = N at *
      have c1 := box_at (j := 1) hk4.out.r10 rfl
      have fz := box_free hk4.out.r10 1
      go_upto_region 23 with fail
      have hk5 := hid (hk4.out.set 1 (.int .i64 ((N : Int) - 9223372036854775808)))
      clear c0 c1 fz
      generalize wr.setCell ⟨W2.heap.size, 1, none⟩ (.int .i64 ((N : Int) - 9223372036854775808)) = w5 at *
      replace hk5 : Hid (KB w W2.heap.size w5 #[.int .i64 3, .int .i64 ((N : Int) - 9223372036854775808), .string ⟨#[]⟩, .slice none 0 0, .slice none 0 0]) := hk5
      have g0 := box_at (j := 0) hk5.out.r6 rfl
      have g1 := box_at (j := 1) hk5.out.r6 rfl
      have g2 := box_at (j := 2) hk5.out.r6 rfl
      have g3 := box_at (j := 3) hk5.out.r6 rfl
      have g4 := box_at (j := 4) hk5.out.r6 rfl
      have gf := box_free hk5.out.r6
      have h0 := box_at (j := 0) hk5.out.r10 rfl
      have h1 := box_at (j := 1) hk5.out.r10 rfl
      have h2 := box_at (j := 2) hk5.out.r10 rfl
      have h3 := box_at (j := 3) hk5.out.r10 rfl
      have h4 := box_at (j := 4) hk5.out.r10 rfl
      go_wp2_with fail
      have hret := hid (hk5.out.ret (.int .i64 3) (.int .i64 ((N : Int) - 9223372036854775808)) (.string ⟨#[]⟩) (.slice none 0 0) (.slice none 0 0))
      unfold set5 at hret
      clear g0 g1 g2 g3 g4 gf h0 h1 h2 h3 h4
      generalize ((((w5.setCell ⟨w.heap.size, 0, none⟩ (.int .i64 3)).setCell ⟨w.heap.size, 1, none⟩ (.int .i64 ((N : Int) - 9223372036854775808))).setCell ⟨w.heap.size, 2, none⟩ (.string ⟨#[]⟩)).setCell ⟨w.heap.size, 3, none⟩ (.slice none 0 0)).setCell ⟨w.heap.size, 4, none⟩ (.slice none 0 0) = w9 at *
      have z0 := box_at (j := 0) hret.out.2.1 rfl
      have z1 := box_at (j := 1) hret.out.2.1 rfl
      have z2 := box_at (j := 2) hret.out.2.1 rfl
      have z3 := box_at (j := 3) hret.out.2.1 rfl
      have z4 := box_at (j := 4) hret.out.2.1 rfl
      refine ⟨rfl, .tuple #[.agg #[.int .i64 3, .int .i64 ((N : Int) - 9223372036854775808), .string ⟨#[]⟩, .slice none 0 0, .slice none 0 0], .int .i64 ((p + 9 : Nat) : Int), .bool true], by simp [results, Tryd.results65, go_sem, z0, z1, z2, z3, z4], ?_⟩
      exact back5_some hno.out rfl hret.out.1 (cs := [.int .i64 3, .int .i64 ((N : Int) - 9223372036854775808), .string ⟨#[]⟩, .slice none 0 0, .slice none 0 0]) (hret.out.2.2 _ _ (rd_atomK ⟨by decide, by decide⟩ hNI.out (by decide)))
end Go.Proofs.YtihcegakghmdfaaDoor

namespace Go.Proofs.YtihcegakghmdfaaDoor
open Go.RowKit Go.Proofs
set_option maxRecDepth 100000 in
set_option maxHeartbeats 2000000 in
theorem rback5_txt {l : List UInt8} {bv : Value} (hl : l.length ≤ 17179869184) (d : Nat) (hd : d ≤ 9) (pR : List UInt8 → Option (PVal × Nat)) {w : World} (p : Nat) (hb : BytesAt w (Now w) l bv) (_hp : p ≤ l.length) (R : Option (PVal × Nat)) (hR : R = headK true pR (l.drop p)) (k : UInt8) (hk : l[p]? = some k) (hz : 40 = k.toNat) :
    Calls Tryd.prog 65 #[bv, .int .i64 p, .int .i64 d] w (Back5 R p w) := by
  have hb0 := hid hb
  replace hR := hid hR
  have hut := hid (fun (w : World) (p : Nat) (hb : BytesAt w (Now w) l bv) (hp : p ≤ l.length) => runtext5_calls hb hl p hp)
  obtain ⟨a, cap, rfl, hc1, hc2, _⟩ := hb
  have e9 : IntKind.i64.wrap ((d : Int) + 1) = (d : Int) + 1 := IntWalk.i64_in _ (by omega)
  have d9 : decide (9 < (d : Int)) = false := decide_eq_false (by omega)
  have d9' : ¬ 9 < (d : Int) := by omega
  obtain ⟨W2, hW2⟩ : ∃ W2, W2 = (w.alloc (.cells #[.int .i64 0, .int .i64 0, .string ⟨#[]⟩, .slice none 0 0, .slice none 0 0] 25)).alloc (.cells #[.int .i64 0, .int .i64 0, .string ⟨#[]⟩, .slice none 0 0, .slice none 0 0] 25) := ⟨_, rfl⟩
  have D2 : Hid (Below w.heap.size w W2) := by show Below _ _ _; rw [hW2]; exact (below_new _ _).step (below_new _ _)
  have q6 : Hid (W2.heap[w.heap.size]? = some (.cells #[.int .i64 0, .int .i64 0, .string ⟨#[]⟩, .slice none 0 0, .slice none 0 0] 25 (0, 0))) := by rw [hW2]; exact al_old (al_at rfl)
  have q9 : Hid (W2.heap[w.heap.size + 1]? = some (.cells #[.int .i64 0, .int .i64 0, .string ⟨#[]⟩, .slice none 0 0, .slice none 0 0] 25 (0, 0))) := by rw [hW2]; exact al_at (by simp)
  have hkn : Hid (∀ k : Int, KB w W2.heap.size (W2.alloc (.cells #[.int .i64 k, .int .i64 0, .string ⟨#[]⟩, .slice none 0 0, .slice none 0 0] 25)) #[.int .i64 k, .int .i64 0, .string ⟨#[]⟩, .slice none 0 0, .slice none 0 0]) := fun k =>
    ⟨by rw [hW2]; simp, al_old q6.out, al_old q9.out, al_at rfl, D2.out.step (below_new _ _)⟩
  have hsz2 : Hid (W2.heap.size = w.heap.size + 1 + 1) := by show _ = _; rw [hW2]; simp
  have hlt : p < l.length := (List.getElem?_eq_some_iff.1 hk).1
  obtain ⟨b, off, rfl, hbS, hcell⟩ := bytes_cells hb0.out (fun h => by rw [h] at hlt; simp at hlt)
  have hcW : Hid (∀ (w' : World), Below w.heap.size w w' → ∀ (j : Nat) (c : UInt8), l[j]? = some c → w'.cell? ⟨b, off + j, none⟩ = some (.int .u8 c.toNat)) := fun w' h j c hc => (h.cell (p := ⟨b, _, none⟩) hbS).trans (hcell j c hc)
  have hdr : l.drop p = k :: l.drop (p + 1) := by rw [List.drop_eq_getElem_cons hlt, (List.getElem?_eq_some_iff.1 hk).2]
  have hcx := hcW.out W2 D2.out p k hk
  rw [hdr] at hR
  have i0 : (0 : Int) ≤ (p : Int) := by omega
  have i1 : (p : Int) < (l.length : Int) := by omega
  have i2 : ¬ (l.length : Int) ≤ (p : Int) := by omega
  have i2' : decide ((l.length : Int) ≤ (p : Int)) = false := decide_eq_false i2
  obtain ⟨z, hz0⟩ : ∃ z, z = k.toNat := ⟨_, rfl⟩
  rw [← hz0] at hcx
  have e5 : IntKind.i64.wrap ((p : Int) + 1) = ((p + 1 : Nat) : Int) := by rw [IntWalk.i64_in _ (by omega)]; omega
  have hzK : z = 40 := hz0.trans hz.symm
  have ez : IntKind.i64.wrap (z : Int) = z := IntWalk.i64_in _ (by omega)
  have j1 : decide ((z : Int) < 10) = false := decide_eq_false (by omega)
  have j1' : ¬ (z : Int) < 10 := by omega
  have j2 : decide (60 < (z : Int)) = false := decide_eq_false (by omega)
  have j2' : ¬ 60 < (z : Int) := by omega
  have j3 : Int.tdiv (z : Int) 10 = 4 := by rw [Int.tdiv_eq_ediv_of_nonneg (by omega)]; omega
  have j3' : (z : Int) / 10 = 4 := by omega
  have j4 : Int.tmod (z : Int) 10 = 0 := by rw [Int.tmod_eq_emod_of_nonneg (by omega)]; omega
  have j4' : (z : Int) % 10 = 0 := by omega
  clear hcell hdr hk hz0 hzK
  have hRR := hR.out.trans (headS_4 hz.symm)
  have hdc : (l.drop (p + 1)).length ≤ l.length := by rw [List.length_drop]; omega
  clear hz
  go_enter Tryd.func65, Tryd.ntmps65
  go_upto_region 2 with fail
  rw [← hW2]
  clear hW2
  go_upto_region 5 with fail
  obtain ⟨w4, hw4⟩ : ∃ w4, w4 = W2.alloc (.cells #[.int .i64 4, .int .i64 0, .string ⟨#[]⟩, .slice none 0 0, .slice none 0 0] 25) := ⟨_, rfl⟩
  have hk4 : Hid (KB w W2.heap.size w4 #[.int .i64 4, .int .i64 0, .string ⟨#[]⟩, .slice none 0 0, .slice none 0 0]) := by rw [hw4]; exact hkn.out 4
  rw [← hw4]
  clear hw4 hkn q6 q9 hcx hsz2
  have c0 := box_at (j := 0) hk4.out.r10 rfl
  have ht := hut.out w4 (p + 1) (hb0.out.later hk4.out.low) (by omega)
  cases hT : txtK true (l.drop (p + 1)) with
  | none =>
    rw [hT] at hRR ht
    replace hRR := hid hRR
    replace ht := hid ht
    clear hT hdc
    go_wp2_with fail
    refine ht.out.mono ?_
    rintro e w5 ⟨⟨s, y, rfl, hs⟩, h3⟩
    replace hs := hid hs
    have hk5 := hid (hk4.out.later h3)
    clear c0
    have c2 := box_at (j := 2) hk5.out.r10 rfl
    have fz := box_free hk5.out.r10 2
    go_upto_region 27 with fail
    have hk6 := hid (hk5.out.set 2 (.string s))
    clear c2 fz
    generalize w5.setCell ⟨W2.heap.size, 2, none⟩ (.string s) = w6 at *
    replace hk6 : Hid (KB w W2.heap.size w6 #[.int .i64 4, .int .i64 0, .string s, .slice none 0 0, .slice none 0 0]) := hk6
    have g0 := box_at (j := 0) hk6.out.r6 rfl
    have g1 := box_at (j := 1) hk6.out.r6 rfl
    have g2 := box_at (j := 2) hk6.out.r6 rfl
    have g3 := box_at (j := 3) hk6.out.r6 rfl
    have g4 := box_at (j := 4) hk6.out.r6 rfl
    have gf := box_free hk6.out.r6
    have h0 := box_at (j := 0) hk6.out.r10 rfl
    have h1 := box_at (j := 1) hk6.out.r10 rfl
    have h2 := box_at (j := 2) hk6.out.r10 rfl
    have h3 := box_at (j := 3) hk6.out.r10 rfl
    have h4 := box_at (j := 4) hk6.out.r10 rfl
    go_wp2_with fail
    have hret := hid (hk6.out.ret (.int .i64 4) (.int .i64 0) (.string s) (.slice none 0 0) (.slice none 0 0))
    unfold set5 at hret
    clear g0 g1 g2 g3 g4 gf h0 h1 h2 h3 h4
    generalize ((((w6.setCell ⟨w.heap.size, 0, none⟩ (.int .i64 4)).setCell ⟨w.heap.size, 1, none⟩ (.int .i64 0)).setCell ⟨w.heap.size, 2, none⟩ (.string s)).setCell ⟨w.heap.size, 3, none⟩ (.slice none 0 0)).setCell ⟨w.heap.size, 4, none⟩ (.slice none 0 0) = w9 at *
    have z0 := box_at (j := 0) hret.out.2.1 rfl
    have z1 := box_at (j := 1) hret.out.2.1 rfl
    have z2 := box_at (j := 2) hret.out.2.1 rfl
    have z3 := box_at (j := 3) hret.out.2.1 rfl
    have z4 := box_at (j := 4) hret.out.2.1 rfl
    refine ⟨rfl, .tuple #[.agg #[.int .i64 4, .int .i64 0, .string s, .slice none 0 0, .slice none 0 0], .int .i64 y, .bool false], by simp [results, Tryd.results65, go_sem, z0, z1, z2, z3, z4], ?_⟩
    exact back5_none hRR.out hret.out.1 (cs := [.int .i64 4, .int .i64 0, .string s, .slice none 0 0, .slice none 0 0]) (hret.out.2.2 _ _ (rd_atomK ⟨by decide, by decide⟩ ⟨by decide, by decide⟩ (by have := hs.out; omega)))
  | some q =>
    obtain ⟨t, c⟩ := q
    have htl := txtK_le true _ _ _ hT
    have hs : Hid ((⟨t.toArray⟩ : ByteArray).size ≤ 140737488355328) := by
      show _ ≤ _
      have h1 : (⟨t.toArray⟩ : ByteArray).size = t.length := by simp [ByteArray.size]
      omega
    rw [hT] at hRR ht
    simp only at hRR
    replace hRR := hid hRR
    replace ht := hid ht
    clear hT hdc htl
    go_wp2_with fail
    refine ht.out.mono ?_
    rintro e w5 ⟨rfl, h3⟩
    have hk5 := hid (hk4.out.later h3)
    clear c0
    have c2 := box_at (j := 2) hk5.out.r10 rfl
    have fz := box_free hk5.out.r10 2
    go_upto_region 27 with fail
    have hk6 := hid (hk5.out.set 2 (.string ⟨t.toArray⟩))
    clear c2 fz
    generalize w5.setCell ⟨W2.heap.size, 2, none⟩ (.string ⟨t.toArray⟩) = w6 at *
    replace hk6 : Hid (KB w W2.heap.size w6 #[.int .i64 4, .int .i64 0, .string ⟨t.toArray⟩, .slice none 0 0, .slice none 0 0]) := hk6
    have g0 := box_at (j := 0) hk6.out.r6 rfl
    have g1 := box_at (j := 1) hk6.out.r6 rfl
    have g2 := box_at (j := 2) hk6.out.r6 rfl
    have g3 := box_at (j := 3) hk6.out.r6 rfl
    have g4 := box_at (j := 4) hk6.out.r6 rfl
    have gf := box_free hk6.out.r6
    have h0 := box_at (j := 0) hk6.out.r10 rfl
    have h1 := box_at (j := 1) hk6.out.r10 rfl
    have h2 := box_at (j := 2) hk6.out.r10 rfl
    have h3 := box_at (j := 3) hk6.out.r10 rfl
    have h4 := box_at (j := 4) hk6.out.r10 rfl
    go_wp2_with fail
    have hret := hid (hk6.out.ret (.int .i64 4) (.int .i64 0) (.string ⟨t.toArray⟩) (.slice none 0 0) (.slice none 0 0))
    unfold set5 at hret
    clear g0 g1 g2 g3 g4 gf h0 h1 h2 h3 h4
    generalize ((((w6.setCell ⟨w.heap.size, 0, none⟩ (.int .i64 4)).setCell ⟨w.heap.size, 1, none⟩ (.int .i64 0)).setCell ⟨w.heap.size, 2, none⟩ (.string ⟨t.toArray⟩)).setCell ⟨w.heap.size, 3, none⟩ (.slice none 0 0)).setCell ⟨w.heap.size, 4, none⟩ (.slice none 0 0) = w9 at *
    have z0 := box_at (j := 0) hret.out.2.1 rfl
    have z1 := box_at (j := 1) hret.out.2.1 rfl
    have z2 := box_at (j := 2) hret.out.2.1 rfl
    have z3 := box_at (j := 3) hret.out.2.1 rfl
    have z4 := box_at (j := 4) hret.out.2.1 rfl
    refine ⟨rfl, .tuple #[.agg #[.int .i64 4, .int .i64 0, .string ⟨t.toArray⟩, .slice none 0 0, .slice none 0 0], .int .i64 ((p + 1 + c : Nat) : Int), .bool true], by simp [results, Tryd.results65, go_sem, z0, z1, z2, z3, z4], ?_⟩
    exact back5_some hRR.out (by omega) hret.out.1 (cs := [.int .i64 4, .int .i64 0, .string ⟨t.toArray⟩, .slice none 0 0, .slice none 0 0]) (hret.out.2.2 _ _ (rd_atomK ⟨by decide, by decide⟩ ⟨by decide, by decide⟩ hs.out))
end Go.Proofs.YtihcegakghmdfaaDoor
