/-
  Walks: codec.clip and codec.Put once more: what they tell is a row of the call's own, that may be written.
  Walk: the law CodecKept.
-/
import Derived.Test.YtihcegakghmdfaaDoorMgEnc1
import Derived.Test.YtihcegakghmdfaaDoorMgApp
import Derived.Test.YtihcegakghmdfaaDoorMgDec12
import Derived.Test.YtihcegakghmdfaaDoorMgVal10
import Derived.ChangeSlices
import Derived.WideShapes
namespace Go.Proofs.YtihcegakghmdfaaDoor
open Go.RowKit Go.Proofs

set_option maxRecDepth 100000 in
theorem clip_owns {w : World} {l : List UInt8} {g c : Nat} (hs : Src w g l) (hlim : l.length ≤ 140737488355328) :
    Calls Tryd.prog 67 #[.slice (some ⟨g, 0, none⟩) l.length c] w fun e w' => ∃ v', e = .returned v' ∧ Below w.heap.size w w' ∧ w'.ownsRow w.heap.size 5 1 v' l.length (bcells l) := by
  obtain ⟨i, hP⟩ := byte8
  obtain ⟨i0, hi, hz0, hz1, hz2⟩ := info_parts info_u8
  have hs0 := hid hs
  go_enter Tryd.func67, Tryd.ntmps67
  go_wp2_with (first
    | (at_make; refine wpList_make_own _ rfl _ _ 26 rfl w.heap.size 5 i _ 1 Tryd.underlying26 hP.hi hP.hz hP.hsize .i64 .i64 _ l.length rfl rfl rfl (by rw [hP.hby]; omega) (by unfold maxLen; omega) (Nat.le_refl _) ?_; intro w4 hown4 hg4; have hs4 := hid (hs0.out.later (grown_below hg4)); have hB4 := hid (grown_below hg4); replace hown4 := hid hown4; clear hg4)
    | (at_builtin; (refine wpList_append_own_any _ rfl _ _ 26 rfl w.heap.size 5 i0 (.int .u8 0) 1 1 Tryd.underlying26 hi hz0 hz1 hz2 rfl (by decide) _ 0 [] rfl hown4.out (some ⟨g, 0, none⟩) l.length c (bcells l) rfl (by rw [bcells_length, Nat.mul_one]) (fun h => by cases h) (fun ad had => by obtain rfl := Option.some.inj had; exact hs4.out) (bcells_one l) (by unfold maxLen; omega) (by omega) hB4.out.size ?_); intro v2 w2 hown2 hg2))
  go_ret
  refine ⟨_, rfl, hB4.out.grown hg2 hB4.out.size (fun k hk => (hown4.out.lt k hk).1), ?_⟩
  simpa using hown2

theorem ownsRow_base {w : World} {B B' e n : Nat} {v : Value} {xs : List Value} (h : w.ownsRow B e 1 v n xs) (hB : B' ≤ B) : w.ownsRow B' e 1 v n xs := by
  refine ⟨h.1, ?_⟩
  rcases h.2 with h0 | ⟨g, cap, cur, hv, hb, hr⟩
  · exact .inl h0
  · exact .inr ⟨g, cap, cur, hv, Nat.le_trans hB hb, hr⟩
/-- What Put tells: bytes of the call's own, or the error. -/
def Owned (V : PVal) (w : World) (e : Ending) (w' : World) : Prop :=
  ∃ v, e = .returned (.tuple #[v, .int .i64 V.good]) ∧ Below w.heap.size w w' ∧ w'.ownsRow w.heap.size 5 1 v (if V.good = 0 then V.enc else []).length (bcells (if V.good = 0 then V.enc else []))

set_option maxRecDepth 100000 in
set_option maxHeartbeats 1000000 in
theorem put_owns (V : PVal) (w : World) (cs : List Value) (hN : V.nodes ≤ 20000) (hT : Tabs w) (hV : Rd w (Now w) V cs) (hlen : V.enc.length + 10 ≤ 140737488355328) :
    Calls Tryd.prog 26 #[.agg cs.toArray] w (Owned V w) := by
  have hg := hid (fun w cs hT h => good_calls V w cs hN hT h)
  have hT := hid (fun w' hb => Tabs.stays w w' hT hb)
  have hV0 := hid hV
  have hwr := hid (fun (w : World) (cs : List Value) (h : Rd w (Off (.slice none 0 0) w) V cs) => written_calls V (W0 := w) (B := w.heap.size) (Buf.nil (Below.refl _ _) (Nat.le_refl _)) h (by simpa using hlen))
  have hne : V.enc ≠ [] := by cases V; simp [PVal.enc]
  have hcl := hid (fun (w : World) (l : List UInt8) (g c : Nat) (hs : Src w g l) (hl : l.length ≤ 140737488355328) => clip_owns (c := c) hs hl)
  unfold Owned
  generalize V.good = G at *
  generalize hen : V.enc = en at *
  clear hen
  replace hne := hid hne
  obtain ⟨k, n, s, l, fn, fv⟩ := V
  obtain ⟨la, lc, fa, fc, rfl, _⟩ := hV.inv
  clear hV
  have B1 := hid (below_new w (.cells #[.int .i64 k, .int .i64 n, .string s, .slice la l.length lc, .slice fa fv.length fc] 25))
  go_enter Tryd.func26, Tryd.ntmps26
  go_wp2_with fail
  refine (hg.out _ _ (hT.out _ B1.out) (hV0.out.later B1.out)).mono ?_
  rintro e w2 ⟨rfl, h2⟩
  have a0 := box_cell (j := 0) h2 rfl
  have a1 := box_cell (j := 1) h2 rfl
  have a2 := box_cell (j := 2) h2 rfl
  have a3 := box_cell (j := 3) h2 rfl
  have a4 := box_cell (j := 4) h2 rfl
  have B2 := hid (B1.out.step h2)
  clear h2
  by_cases hG : G = 0
  · subst hG
    go_wp2_with fail
    refine (hwr.out w2 _ ((hV0.out.later B2.out).keep (fun _ h => ⟨h, by simp [Value.ownBlock]⟩) (fun _ _ => rfl))).mono ?_
    rintro e w3 ⟨v3, rfl, hb3, he3⟩
    rw [List.nil_append] at hb3
    obtain ⟨g1, c1, rfl, _⟩ := hb3.form hne.out
    replace hb3 := hid hb3
    replace he3 := hid he3.nil
    clear a0 a1 a2 a3 a4
    go_wp2_with fail
    refine (hcl.out _ _ _ _ hb3.out.src (by omega)).mono ?_
    rintro e w4 ⟨v4, rfl, hb4, ho4⟩
    replace hb4 := hid hb4
    replace ho4 := hid ho4
    go_wp2_with fail
    go_returns
    have B3 := B2.out.step he3.out
    exact ⟨_, rfl, B3.step hb4.out, by simpa using ownsRow_base ho4.out B3.size⟩
  · go_wp2_with fail
    go_returns
    exact ⟨_, rfl, B2.out, by simpa [hG, bcells] using World.ownsRow_nil _ _ _ _⟩
end Go.Proofs.YtihcegakghmdfaaDoor

namespace Go.Proofs.YtihcegakghmdfaaDoor
open Go.RowKit Go.Proofs

theorem gotW_case {R : Got PVal} {w w' : World} {e : Ending} (h : GotW R w e w') : ∃ cs, e = .returned (.tuple #[.agg cs.toArray, .int .i64 R.err]) ∧ Below w.heap.size w w' ∧ Rd w' (From w.heap.size w') R.val cs ∧ Thaw w.heap.size w' cs := by
  obtain ⟨h1, h2⟩ := h
  cases R with
  | bad c =>
    refine ⟨_, h2, h1, rd_zero, fun j ad n c hj => ?_⟩
    match j, hj with
    | 0, hj => simp at hj
    | 1, hj => simp at hj
    | 2, hj => simp at hj
    | 3, hj => simp at hj
    | 4, hj => simp at hj
    | j + 5, hj => simp at hj
  | ok V n =>
    obtain ⟨cs, rfl, hr, ht⟩ := h2
    exact ⟨cs, rfl, h1, hr, ht⟩

/-- So many cells of a block are there, and may be written. -/
def There (b m : Nat) (w : World) : Prop := ∃ arr t fz, w.heap[b]? = some (.cells arr t fz) ∧ m ≤ arr.size ∧ ∀ o, w.frozen? ⟨b, o, none⟩ = false
theorem There.cell {b m o : Nat} {w : World} (h : There b m w) (ho : o < m) : ∃ v, w.cell? ⟨b, o, none⟩ = some v := by
  obtain ⟨arr, t, fz, h1, h2, _⟩ := h
  refine ⟨arr[o]'(by omega), ?_⟩
  unfold World.cell?
  rw [h1]
  simp [Array.getElem?_eq_getElem (show o < arr.size by omega)]
theorem There.free {b m : Nat} {w : World} (h : There b m w) (o : Nat) : w.frozen? ⟨b, o, none⟩ = false := by
  obtain ⟨_, _, _, _, _, h3⟩ := h
  exact h3 o
theorem There.keep {b m : Nat} {w w' : World} (h : There b m w) (hb : w'.heap[b]? = w.heap[b]?) : There b m w' := by
  obtain ⟨arr, t, fz, h1, h2, h3⟩ := h
  refine ⟨arr, t, fz, hb.trans h1, h2, fun o => ?_⟩
  rw [← h3 o]
  unfold World.frozen?
  rw [hb]
theorem There.set {b m : Nat} {w : World} (h : There b m w) (c o : Nat) (u : Value) : There b m (w.setCell ⟨c, o, none⟩ u) := by
  by_cases hc : b = c
  · subst hc
    obtain ⟨arr, t, fz, h1, h2, h3⟩ := h
    have hlt := lt_of_block h1
    have h' : w.heap[b] = .cells arr t fz := by simpa [Array.getElem?_eq_getElem hlt] using h1
    have hrow : (w.setCell ⟨b, o, none⟩ u).heap[b]? = some (.cells (arr.setIfInBounds o u) t fz) := by
      show (w.heap.modify b _)[b]? = _
      rw [Array.getElem?_eq_getElem (by simpa using hlt), Array.getElem_modify_self, h']
      rfl
    refine ⟨_, t, fz, hrow, by simpa using h2, fun x => ?_⟩
    have := h3 x
    unfold World.frozen? at this ⊢
    rw [h1] at this
    rw [hrow]
    exact this
  · exact h.keep (Below.heap_setCell _ _ _ _ hc)
theorem there_of {b k : Nat} {w : World} {v : Value} (h : w.cell? ⟨b, k, none⟩ = some v) (hf : ∀ o, w.frozen? ⟨b, o, none⟩ = false) : There b (k + 1) w := by
  unfold World.cell? at h
  split at h
  · rename_i c t fz h1
    refine ⟨c, t, fz, h1, ?_, hf⟩
    simp only [Option.isSome_none, Bool.false_eq_true, if_false] at h
    exact (Array.getElem?_eq_some_iff.1 h).1
  · cases h
/-- The rows of a slice of so many elements. -/
def Rows0 (B C sz n : Nat) (a : Option Addr) (w : World) : Prop := n = 0 ∨ ∃ b off, a = some ⟨b, off, none⟩ ∧ B ≤ b ∧ b < C ∧ There b (off + n * sz) w
theorem rows_list {B : Nat} {w : World} {S : Nat → Prop} {l : List PVal} {a : Option Addr} {c : Nat} (h : RdL w S l (.slice a l.length c)) (ht : ∀ ad, a = some ad → B ≤ ad.block ∧ ad.block < w.heap.size ∧ ∀ off, w.frozen? ⟨ad.block, off, none⟩ = false) : Rows0 B w.heap.size 5 l.length a w := by
  by_cases h0 : l.length = 0
  · exact .inl h0
  · obtain ⟨x, hx⟩ : ∃ x, l[l.length - 1]? = some x := ⟨_, List.getElem?_eq_getElem (by omega)⟩
    obtain ⟨b, off, cs, rfl, _, hc, hr⟩ := h.at_ hx
    obtain ⟨t1, t2, t3⟩ := ht _ rfl
    have hl := hr.len
    have h4 := hc 4 cs[4] (List.getElem?_eq_getElem (by omega))
    have := there_of h4 t3
    exact .inr ⟨b, off, rfl, t1, t2, by rw [show off + l.length * 5 = off + (l.length - 1) * 5 + 4 + 1 by omega]; exact this⟩
theorem rows_fields {B : Nat} {w : World} {S : Nat → Prop} {fn : List ByteArray} {fv : List PVal} {a : Option Addr} {c : Nat} (h : RdF w S fn fv (.slice a fv.length c)) (ht : ∀ ad, a = some ad → B ≤ ad.block ∧ ad.block < w.heap.size ∧ ∀ off, w.frozen? ⟨ad.block, off, none⟩ = false) : Rows0 B w.heap.size 6 fv.length a w := by
  by_cases h0 : fv.length = 0
  · exact .inl h0
  · have hlen := h.1
    obtain ⟨x, hx⟩ : ∃ x, fv[fv.length - 1]? = some x := ⟨_, List.getElem?_eq_getElem (by omega)⟩
    obtain ⟨nm, hn⟩ : ∃ nm, fn[fv.length - 1]? = some nm := ⟨_, List.getElem?_eq_getElem (by omega)⟩
    obtain ⟨b, off, cs, rfl, _, hc, hr, _⟩ := h.at_ hn hx
    obtain ⟨t1, t2, t3⟩ := ht _ rfl
    have hl := hr.len
    have h4 := hc 5 cs[4] (by simp [List.getElem?_eq_getElem (show 4 < cs.length by omega)])
    have := there_of h4 t3
    exact .inr ⟨b, off, rfl, t1, t2, by rw [show off + fv.length * 6 = off + (fv.length - 1) * 6 + 5 + 1 by omega]; exact this⟩
theorem Rows0.later {B C sz n : Nat} {a : Option Addr} {w w' : World} (h : Rows0 B C sz n a w) (hC : C ≤ w.heap.size) (hb : Below w.heap.size w w') : Rows0 B C sz n a w' := by
  rcases h with h | ⟨b, off, h1, h2, h3, h4⟩
  · exact .inl h
  · exact .inr ⟨b, off, h1, h2, h3, h4.keep (hb.block b (Nat.lt_of_lt_of_le h3 hC))⟩
theorem Rows0.set {B C sz n : Nat} {a : Option Addr} {w : World} (h : Rows0 B C sz n a w) (c o : Nat) (u : Value) : Rows0 B C sz n a (w.setCell ⟨c, o, none⟩ u) := by
  rcases h with h | ⟨b, off, h1, h2, h3, h4⟩
  · exact .inl h
  · exact .inr ⟨b, off, h1, h2, h3, h4.set c o u⟩

/-- What the regions in the law's loops read. -/
def KpS (g : Nat) (v : Value) (w' : World) : Prop := w'.cell? ⟨g, 3, none⟩ = some v
theorem kpS_mk {w w' : World} {g : Nat} {v0 v1 v2 v3 v4 : Value} {u : TypeId} (hg : w.heap[g]? = some (.cells #[v0, v1, v2, v3, v4] u (0, 0))) (h2 : w'.heap[g]? = w.heap[g]?) : KpS g v3 w' := box_at (h2.trans hg) rfl

/-- What the law's last region reads: three boxes, three texts, one byte. -/
def KfS (A B C : Nat) (a0 a1 a2 a3 a4 b0 b1 b2 b3 b4 d0 d1 d2 d3 d4 v v2 v3 : Value) (t l : ByteArray) (q m : Nat) (x : World) : Prop :=
  x.cell? ⟨A, 0, none⟩ = some a0 ∧ x.cell? ⟨A, 1, none⟩ = some a1 ∧ x.cell? ⟨A, 2, none⟩ = some a2 ∧ x.cell? ⟨A, 3, none⟩ = some a3 ∧ x.cell? ⟨A, 4, none⟩ = some a4 ∧ x.cell? ⟨B, 0, none⟩ = some b0 ∧ x.cell? ⟨B, 1, none⟩ = some b1 ∧ x.cell? ⟨B, 2, none⟩ = some b2 ∧ x.cell? ⟨B, 3, none⟩ = some b3 ∧ x.cell? ⟨B, 4, none⟩ = some b4 ∧ x.cell? ⟨C, 0, none⟩ = some d0 ∧ x.cell? ⟨C, 1, none⟩ = some d1 ∧ x.cell? ⟨C, 2, none⟩ = some d2 ∧ x.cell? ⟨C, 3, none⟩ = some d3 ∧ x.cell? ⟨C, 4, none⟩ = some d4 ∧ (convert 26 9 v).run Tryd.prog x = .ok (.string t) x ∧ (convert 26 9 v2).run Tryd.prog x = .ok (.string l) x ∧ (convert 26 9 v3).run Tryd.prog x = .ok (.string l) x ∧ x.cell? ⟨q, m, none⟩ = some (.int .u8 201)

set_option maxRecDepth 100000 in
set_option maxHeartbeats 8000000 in
theorem kept_calls (V : PVal) (hm : V.mass ≤ 1073741824) {w : World} {cs : List Value} {bv : Value} {l : List UInt8} (hT : Tabs w) (hV : Rd w (Now w) V cs) (hb : BytesAt w (Now w) l bv) (hfm : bv = .slice none 0 0 ∨ ∃ ad n c, bv = .slice (some ad) n c) (hl : l.length ≤ 35184372088832) :
    Calls Tryd.prog 5 #[.agg cs.toArray, bv] w fun e w' => e = .returned (.bool true) ∧ Below w.heap.size w w' := by
  have hT := hid (fun w' hb => Tabs.stays w w' hT hb)
  have hV0 := hid hV
  have hb0 := hid hb
  have haw := hid awake3_calls
  have hv := hid (fun la c' w h => vast_calls [V] la c' w h (by simp))
  cases hvb : vast [V] with
  | true =>
    rw [hvb] at hv
    obtain ⟨k, n, s, l, fn, fv⟩ := V
    obtain ⟨la, lc, fa, fc, rfl, _⟩ := hV.inv
    clear hV hvb hfm
    go_enter Tryd.func5, Tryd.ntmps5
    go_wp2_with fail
    refine (haw.out _ (hT.out _ (below_new _ _))).mono ?_
    rintro e w1 ⟨rfl, h1⟩
    have a0 := box_cell (j := 0) h1 rfl
    have a1 := box_cell (j := 1) h1 rfl
    have a2 := box_cell (j := 2) h1 rfl
    have a3 := box_cell (j := 3) h1 rfl
    have a4 := box_cell (j := 4) h1 rfl
    have D := hid ((below_new w (.cells #[.int .i64 k, .int .i64 n, .string s, .slice la l.length lc, .slice fa fv.length fc] 25)).step h1)
    clear h1
    go_wp2_with fail
    refine (hv.out (some ⟨w1.heap.size, 0, none⟩) 1 _ (rdL_block (css := [[.int .i64 k, .int .i64 n, .string s, .slice la l.length lc, .slice fa fv.length fc]]) rfl rfl rfl (one_rd (hV0.out.later (D.out.step (below_new _ _)))) (blk_new (by simp)) (by simp))).mono ?_
    rintro e w2 ⟨rfl, h2⟩
    clear a0 a1 a2 a3 a4
    go_wp2_with fail
    go_ret
    exact ⟨rfl, D.out.step ((below_new _ _).step h2)⟩
  | false =>
    rw [hvb] at hv
    have hnl : ¬ 5000 ≤ nodesL [V] := of_decide_eq_false hvb
    have hN : V.nodes ≤ 20000 := by
      rw [nodesL, nodesL] at hnl
      omega
    have hfit := hV.fits
    have hel := enc_le V hfit
    have po := hid (fun w cs hT h => put_owns V w cs hN hT h (by omega))
    unfold Owned at po
    have hgw : Hid (∀ (w' : World) (bv : Value), BytesAt w' (Now w') l bv → Tabs w' → Calls Tryd.prog 27 #[bv] w' fun e w2 => ∃ cs, e = .returned (.tuple #[.agg cs.toArray, .int .i64 (getR l).err]) ∧ Below w'.heap.size w' w2 ∧ Rd w2 (From w'.heap.size w2) (getR l).val cs ∧ Thaw w'.heap.size w2 cs) :=
      fun w' bv h hT => (get_calls_w h hT (by omega)).mono fun e w2 h => gotW_case h
    have gr := hid (fun (w' : World) (h : Below w.heap.size w w') => (rget_calls (hb.later h) hl).mono fun e w2 h => gotV_case h)
    have gb := hid (fun w cs h => rbytes_calls V w cs (by omega) h)
    have hs3 := hid (fun (V : PVal) w cs cs' => same3_calls V V true (by simp) w cs cs')
    have htx := hid (fun w => text_calls ⟨#[113]⟩ w)
    have hlen0 : (if V.good = 0 then V.enc else []).length ≤ 140737488355328 := by
      split
      · omega
      · simp
    have hLb : V.good ≠ 0 ∨ (if V.good = 0 then V.enc else []) = V.enc := by
      by_cases h : V.good = 0
      · exact .inr (if_pos h)
      · exact .inl h
    generalize (if V.good = 0 then V.enc else []) = L2 at *
    generalize V.good = G at *
    generalize V.enc = en at *
    generalize (getR l).err = re at *
    generalize (getR l).val = X at *
    replace hLb := hid hLb
    replace hlen0 := hid hlen0
    clear hel hm hN hnl hvb
    obtain ⟨k, n, s, vl, fn, fv⟩ := V
    obtain ⟨xk, xn, xs, xl, xfn, xfv⟩ := X
    obtain ⟨la, lc, fa, fc, rfl, _⟩ := hV.inv
    obtain ⟨ba, bc, rfl, hc1, hc2, _⟩ := hb
    obtain ⟨i0, hi, hz0, hz1, hz2⟩ := info_parts info_u8
    have hn0 : Hid (ba = none → l.length = 0 ∧ bc = 0) := fun h => by
      subst h
      rcases hfm with hnone | ⟨ad, n', c', hsome⟩
      · injection hnone with e1 e2 e3
        exact ⟨e2, e3⟩
      · cases hsome
    clear hV hfit hfm
    go_enter Tryd.func5, Tryd.ntmps5
    go_wp2_with fail
    refine (haw.out _ (hT.out _ (below_new _ _))).mono ?_
    rintro e w1 ⟨rfl, h1⟩
    have r2 := hid ((h1.block w.heap.size (by simp)).trans (heap_alloc_new w (.cells #[.int .i64 k, .int .i64 n, .string s, .slice la vl.length lc, .slice fa fv.length fc] 25)))
    have D := hid ((below_new w (.cells #[.int .i64 k, .int .i64 n, .string s, .slice la vl.length lc, .slice fa fv.length fc] 25)).step h1)
    have a0 := box_at (j := 0) r2.out rfl
    have a1 := box_at (j := 1) r2.out rfl
    have a2 := box_at (j := 2) r2.out rfl
    have a3 := box_at (j := 3) r2.out rfl
    have a4 := box_at (j := 4) r2.out rfl
    clear h1
    go_wp2_with fail
    refine (hv.out (some ⟨w1.heap.size, 0, none⟩) 1 _ (rdL_block (css := [[.int .i64 k, .int .i64 n, .string s, .slice la vl.length lc, .slice fa fv.length fc]]) rfl rfl rfl (one_rd (hV0.out.later (D.out.step (below_new _ _)))) (blk_new (by simp)) (by simp))).mono ?_
    rintro e w2 ⟨rfl, h2⟩
    replace h2 := (below_new w1 _).step h2
    replace r2 := hid ((h2.block _ (lt_of_block r2.out)).trans r2.out)
    replace D := hid (D.out.step h2)
    clear a0 a1 a2 a3 a4 h2
    have hoE := hid (World.ownsRow_lit (base := w2.heap.size) (e := 5) (size := 1) w2 #[] 0 (Nat.le_refl _) (by decide) rfl)
    have hnews : Hid (∀ ad, ba = some ad → ∀ j u, (bcells l)[j]? = some u → (w2.alloc (.cells #[] 5)).cell? (ad.add j) = some u) := fun ad had j u hu => by
      obtain ⟨a', c', e, _, _, h9⟩ := hb0.out.later (D.out.step (below_new w2 (.cells #[] 5)))
      injection e with e1
      rcases h9 with h0 | ⟨b, off, h4, h5, h6⟩
      · subst h0; simp [bcells] at hu
      · rw [← e1, had] at h4
        injection h4 with h4
        subst h4
        simp only [bcells, List.getElem?_map, Option.map_eq_some_iff] at hu
        obtain ⟨x, hx, rfl⟩ := hu
        have := h6 j x hx
        rwa [addr_at]
    go_wp2_with (first
      | (at_builtin; (refine wpList_append_own_any _ rfl (.tmp 24) (.tmp 25) 26 rfl w2.heap.size 5 i0 (.int .u8 0) 1 1 Tryd.underlying26 hi hz0 hz1 hz2 rfl (by decide) _ 0 [] rfl hoE.out ba l.length bc (bcells l) rfl (by rw [bcells_length, Nat.mul_one]) hn0.out hnews.out (bcells_one l) (by unfold maxLen; omega) (by omega) (below_new w2 _).size ?_); intro v3 w3 hown3 hg3; replace hown3 := hid hown3; replace hg3 := hid hg3)
      | (at_builtin; (refine wpList_append_own_any _ rfl (.tmp 26) (.tmp 27) 26 rfl w2.heap.size 5 i0 (.int .u8 0) 1 1 Tryd.underlying26 hi hz0 hz1 hz2 rfl (by decide) _ (0 + l.length) ([] ++ bcells l) rfl (hown3.out.alloc _) (some ⟨w3.heap.size, 0, none⟩) 1 1 [.int .u8 201] rfl rfl (fun h => by cases h) (fun ad had => by obtain rfl := Option.some.inj had; exact cells_new w3 _ rfl [.int .u8 201] _) (by intro u hu; simp at hu; subst hu; rfl) (by unfold maxLen; omega) (by omega) (Nat.le_trans (Nat.le_trans (below_new w2 _).size hg3.out.size) (below_new w3 _).size) ?_); intro v4 w4 hown4 hg4; replace hown4 := hid hown4; replace hg4 := hid hg4
         obtain ⟨qg, cap3, rfl⟩ : ∃ qg cap3, v4 = .slice (some ⟨qg, 0, none⟩) (l.length + 1) cap3 := by
           rcases hown4.out.2 with ⟨_, h0⟩ | ⟨g, cap, cur, hv, _⟩
           · omega
           · exact ⟨g, cap, by rw [hv, Nat.zero_add]⟩
         have hcap3 := (own_cap hown4.out).1))
    have N3 : Below w2.heap.size w2 w3 := (below_new w2 _).grown hg3.out (below_new w2 _).size (fun k hk => (hoE.out.lt k hk).1)
    have N4 : Below w2.heap.size w2 w4 := (N3.step (below_new w3 _)).grown hg4.out (N3.step (below_new w3 _)).size (fun k hk => (hown3.out.lt k hk).1)
    have hown : w4.ownsRow w2.heap.size 5 1 (.slice (some ⟨qg, 0, none⟩) (l.length + 1) cap3) (l.length + 1) (bcells (l ++ [201])) := by
      rw [bcells_append]
      have := hown4.out
      simp only [List.nil_append, Nat.zero_add] at this
      exact this
    have hc : BytesAt w4 (Now w4) l (.slice (some ⟨qg, 0, none⟩) l.length cap3) := by
      have h := own_bytes (m := l.length) hown (by simp) (by simp)
      rwa [List.take_left] at h
    have h201 : w4.cell? ⟨qg, l.length, none⟩ = some (.int .u8 201) := by
      rw [hown.cellAt l.length (by omega)]
      simp [bcells]
    have hqg := (hown.lt qg rfl).2
    replace hc := hid hc
    replace h201 := hid h201
    replace hqg := hid hqg
    replace r2 := hid ((N4.block _ (lt_of_block r2.out)).trans r2.out)
    replace D := hid (D.out.step N4)
    clear N3 N4 hown hown3 hown4 hg3 hg4 hnews hoE
    refine (hgw.out _ _ hc.out (hT.out _ D.out)).mono ?_
    rintro e w5 ⟨cs5, rfl, h5, hr5, ht5⟩
    obtain ⟨xa, xc, za, zc, rfl, _, _, _, _, _, _, _, hxL, hxF⟩ := hr5.inv
    have hRL := rows_list (B := w4.heap.size) hxL (fun ad h => ht5 3 ad _ _ (by rw [h]; rfl))
    have hRF := rows_fields (B := w4.heap.size) hxF (fun ad h => ht5 4 ad _ _ (by rw [h]; rfl))
    clear hxL hxF hr5 ht5
    go_upto_region 7 with fail
    obtain ⟨w6, hw6⟩ : ∃ w6, w6 = w5.alloc (.cells #[.int .i64 xk, .int .i64 xn, .string xs, .slice xa xl.length xc, .slice za xfv.length zc] 25) := ⟨_, rfl⟩
    have h6 : Below w5.heap.size w5 w6 := by rw [hw6]; exact below_new _ _
    have r6 : Hid (w6.heap[w5.heap.size]? = some (.cells #[.int .i64 xk, .int .i64 xn, .string xs, .slice xa xl.length xc, .slice za xfv.length zc] 25 (0, 0))) := by show _ = _; rw [hw6]; exact heap_alloc_new _ _
    rw [← hw6]
    clear hw6
    have K6 := hid (h5.step h6)
    replace hRL := hid (hRL.later (Nat.le_refl _) h6)
    replace hRF := hid (hRF.later (Nat.le_refl _) h6)
    have hw5 : Hid (w4.heap.size ≤ w5.heap.size) := h5.size
    clear h5 h6
    go_wp2_with fail
    go_loopg [8] xl.length (fun g i wr => ∃ j : Nat, g + j = xl.length ∧ i = .int .i64 j ∧ Below w4.heap.size w4 wr ∧ wr.heap[w5.heap.size]? = some (.cells #[.int .i64 xk, .int .i64 xn, .string xs, .slice xa xl.length xc, .slice za xfv.length zc] 25 (0, 0)) ∧ Rows0 w4.heap.size w5.heap.size 5 xl.length xa wr ∧ Rows0 w4.heap.size w5.heap.size 6 xfv.length za wr)
    case atStart => exact ⟨0, by omega, rfl, K6.out, r6.out, hRL.out, hRF.out⟩
    case round =>
      obtain ⟨j, hj, rfl, hK, hr, hL, hF⟩ := hrel
      replace hK := hid hK
      replace hr := hid hr
      replace hL := hid hL
      replace hF := hid hF
      clear hRL hRF r6 K6
      by_cases hlt : j < xl.length
      · obtain ⟨b, off, rfl, hb1, hb2, hth⟩ := hL.out.resolve_left (by omega)
        obtain ⟨u0, c0⟩ := hth.cell (o := off + j * 5) (by omega)
        obtain ⟨u1, c1⟩ := hth.cell (o := off + j * 5 + 1) (by omega)
        obtain ⟨u2, c2⟩ := hth.cell (o := off + j * 5 + 2) (by omega)
        obtain ⟨u3, c3⟩ := hth.cell (o := off + j * 5 + 3) (by omega)
        obtain ⟨u4, c4⟩ := hth.cell (o := off + j * 5 + 4) (by omega)
        replace c0 := hid c0
        replace c1 := hid c1
        replace c2 := hid c2
        replace c3 := hid c3
        replace c4 := hid c4
        replace hth := hid hth
        have d0 := box_at (j := 0) hr.out rfl
        have d1 := box_at (j := 1) hr.out rfl
        have d2 := box_at (j := 2) hr.out rfl
        have d3 := box_at (j := 3) hr.out rfl
        have d4 := box_at (j := 4) hr.out rfl
        go_upto_region 10 with fail
        clear d0 d1 d2 d3 d4
        refine wp_region_T (KpS w5.heap.size (.slice (some ⟨b, off, none⟩) xl.length xc)) 5 (by kernel_rfl) ?_
        have hS0 : KpS w5.heap.size (.slice (some ⟨b, off, none⟩) xl.length xc) wr.drew := kpS_mk hr.out rfl
        ((refine wpAnyT_take (i := 0) (v := ?_) rfl (by kernel_rfl) (by kernel_rfl) (by kernel_rfl) (by kernel_rfl) (by exact fun _ _ _ h => h) (Or.inl ⟨by kernel_rfl, ?_⟩) hS0 ?_; rotate_left 1; focus (intro w hSw; unfold KpS at hSw; (try dsimp only at hSw); go_simp; try with_reducible rfl); (try simp only [List.getElem_toArray, List.getElem_cons_zero, List.getElem_cons_succ, Act.put, List.setIfInBounds_toArray, List.set_cons_zero, List.set_cons_succ])); (refine wpAnyT_take (i := 1) (v := ?_) rfl (by kernel_rfl) (by kernel_rfl) (by kernel_rfl) (by kernel_rfl) (by exact fun _ _ _ h => h) (Or.inl ⟨by kernel_rfl, ?_⟩) hS0 ?_; rotate_left 1; focus (intro w hSw; unfold KpS at hSw; (try dsimp only at hSw); go_simp; try with_reducible rfl); (try simp only [List.getElem_toArray, List.getElem_cons_zero, List.getElem_cons_succ, Act.put, List.setIfInBounds_toArray, List.set_cons_zero, List.set_cons_succ])); (refine wpAnyT_take (i := 2) (v := ?_) rfl (by kernel_rfl) (by kernel_rfl) (by kernel_rfl) (by kernel_rfl) (by exact fun _ _ _ h => h) (Or.inl ⟨by kernel_rfl, ?_⟩) hS0 ?_; rotate_left 1; focus (intro w hSw; unfold KpS at hSw; (try dsimp only at hSw); go_simp; try with_reducible rfl); (try simp only [List.getElem_toArray, List.getElem_cons_zero, List.getElem_cons_succ, Act.put, List.setIfInBounds_toArray, List.set_cons_zero, List.set_cons_succ])))
        refine wpAnyT_one (i := 3) (by kernel_rfl) rfl (fun K hK => ?_)
        go_simp
        refine (htx.out _).mono ?_
        rintro e wq ⟨rfl, hq⟩
        have Q := hid ((Below.refl wr.heap.size wr).drew.step hq)
        clear hq hS0
        have hS0 := kpS_mk hr.out (Q.out.block _ (lt_of_block hr.out))
        have hne : w5.heap.size ≠ b := by omega
        have hbr := Nat.lt_trans hb2 (lt_of_block hr.out)
        (refine hK.out _ _ (fun _ => hS0) (fun _ => ?_); clear hK K; (try simp only [Act.put, List.setIfInBounds_toArray, List.set_cons_zero, List.set_cons_succ]))
        ((refine wpAnyT_take (i := 4) (v := ?_) rfl (by kernel_rfl) (by kernel_rfl) (by kernel_rfl) (by kernel_rfl) (by exact fun _ _ _ h => h) (Or.inl ⟨by kernel_rfl, ?_⟩) hS0 ?_; rotate_left 1; focus (intro w hSw; unfold KpS at hSw; (try dsimp only at hSw); go_simp; try with_reducible rfl); (try simp only [List.getElem_toArray, List.getElem_cons_zero, List.getElem_cons_succ, Act.put, List.setIfInBounds_toArray, List.set_cons_zero, List.set_cons_succ])))
        have e0 := (Q.out.cell (p := ⟨b, off + j * 5, none⟩) hbr).trans c0.out
        have e1 := (Q.out.cell (p := ⟨b, off + j * 5 + 1, none⟩) hbr).trans c1.out
        have e2 := (Q.out.cell (p := ⟨b, off + j * 5 + 2, none⟩) hbr).trans c2.out
        have e3 := (Q.out.cell (p := ⟨b, off + j * 5 + 3, none⟩) hbr).trans c3.out
        have e4 := (Q.out.cell (p := ⟨b, off + j * 5 + 4, none⟩) hbr).trans c4.out
        have hthq := hth.out.keep (Q.out.block b hbr)
        have f0 := hthq.free (off + j * 5)
        have f1 := hthq.free (off + j * 5 + 1)
        have f2 := hthq.free (off + j * 5 + 2)
        have f3 := hthq.free (off + j * 5 + 3)
        have f4 := hthq.free (off + j * 5 + 4)
        clear hthq
        refine wpAnyT_one (i := 5) (by kernel_rfl) rfl (fun K hK => ?_)
        go_simp
        (refine hK.out _ _ (fun h => absurd h (by decide)) (fun _ => ?_); clear hK K; (try simp only [Act.put, List.setIfInBounds_toArray]))
        clear e0 e1 e2 e3 e4 f0 f1 f2 f3 f4 hS0
        refine wpAnyT_done (by kernel_rfl) ?_ _
        have hKn := hid ((((((hK.out.step Q.out).setCell (p := ⟨b, off + j * 5, none⟩) hb1 (.int .i64 4)).setCell (p := ⟨b, off + j * 5 + 1, none⟩) hb1 (.int .i64 0)).setCell (p := ⟨b, off + j * 5 + 2, none⟩) hb1 (.string ⟨#[113]⟩)).setCell (p := ⟨b, off + j * 5 + 3, none⟩) hb1 (.slice none 0 0)).setCell (p := ⟨b, off + j * 5 + 4, none⟩) hb1 (.slice none 0 0))
        have hLn := hid ((((((hL.out.later (Nat.le_of_lt (lt_of_block hr.out)) Q.out).set b (off + j * 5) (.int .i64 4)).set b (off + j * 5 + 1) (.int .i64 0)).set b (off + j * 5 + 2) (.string ⟨#[113]⟩)).set b (off + j * 5 + 3) (.slice none 0 0)).set b (off + j * 5 + 4) (.slice none 0 0))
        have hFn := hid ((((((hF.out.later (Nat.le_of_lt (lt_of_block hr.out)) Q.out).set b (off + j * 5) (.int .i64 4)).set b (off + j * 5 + 1) (.int .i64 0)).set b (off + j * 5 + 2) (.string ⟨#[113]⟩)).set b (off + j * 5 + 3) (.slice none 0 0)).set b (off + j * 5 + 4) (.slice none 0 0))
        have hrn : Hid ((((((wq.setCell ⟨b, off + j * 5, none⟩ (.int .i64 4)).setCell ⟨b, off + j * 5 + 1, none⟩ (.int .i64 0)).setCell ⟨b, off + j * 5 + 2, none⟩ (.string ⟨#[113]⟩)).setCell ⟨b, off + j * 5 + 3, none⟩ (.slice none 0 0)).setCell ⟨b, off + j * 5 + 4, none⟩ (.slice none 0 0)).heap[w5.heap.size]? = some (.cells #[.int .i64 xk, .int .i64 xn, .string xs, .slice (some ⟨b, off, none⟩) xl.length xc, .slice za xfv.length zc] 25 (0, 0))) := by
          show _ = _
          rw [Below.heap_setCell _ _ _ _ hne, Below.heap_setCell _ _ _ _ hne, Below.heap_setCell _ _ _ _ hne, Below.heap_setCell _ _ _ _ hne, Below.heap_setCell _ _ _ _ hne]
          exact (Q.out.block _ (lt_of_block hr.out)).trans hr.out
        go_wp2_with fail
        go_roundg (xl.length - (j + 1))
        case measure => omega
        case rel => exact ⟨j + 1, by omega, by go_num, hKn.out, hrn.out, hLn.out, hFn.out⟩
      · have d0 := box_at (j := 0) hr.out rfl
        have d1 := box_at (j := 1) hr.out rfl
        have d2 := box_at (j := 2) hr.out rfl
        have d3 := box_at (j := 3) hr.out rfl
        have d4 := box_at (j := 4) hr.out rfl
        go_wp2_with fail
        clear d0 d1 d2 d3 d4
        go_loopg [9] xfv.length (fun g i wr => ∃ j : Nat, g + j = xfv.length ∧ i = .int .i64 j ∧ Below w4.heap.size w4 wr ∧ wr.heap[w5.heap.size]? = some (.cells #[.int .i64 xk, .int .i64 xn, .string xs, .slice xa xl.length xc, .slice za xfv.length zc] 25 (0, 0)) ∧ Rows0 w4.heap.size w5.heap.size 6 xfv.length za wr)
        case atStart => exact ⟨0, by omega, rfl, hK.out, hr.out, hF.out⟩
        case round =>
          clear hK hr hL hF hj hlt
          obtain ⟨j2, hj, rfl, hK, hr, hF⟩ := hrel
          replace hK := hid hK
          replace hr := hid hr
          replace hF := hid hF
          have d0 := box_at (j := 0) hr.out rfl
          have d1 := box_at (j := 1) hr.out rfl
          have d2 := box_at (j := 2) hr.out rfl
          have d3 := box_at (j := 3) hr.out rfl
          have d4 := box_at (j := 4) hr.out rfl
          by_cases hlt : j2 < xfv.length
          · obtain ⟨b, off, rfl, hb1, hb2, hth⟩ := hF.out.resolve_left (by omega)
            obtain ⟨u0, c0⟩ := hth.cell (o := off + j2 * 6) (by omega)
            have f0 := hth.free (off + j2 * 6)
            have hne : w5.heap.size ≠ b := by omega
            replace hth := hid hth
            have hKn := hid (hK.out.setCell (p := ⟨b, off + j2 * 6, none⟩) hb1 (.string ⟨#[113]⟩))
            have hFn := hid (hF.out.set b (off + j2 * 6) (.string ⟨#[113]⟩))
            have hrn : Hid ((wr.setCell ⟨b, off + j2 * 6, none⟩ (.string ⟨#[113]⟩)).heap[w5.heap.size]? = some (.cells #[.int .i64 xk, .int .i64 xn, .string xs, .slice xa xl.length xc, .slice (some ⟨b, off, none⟩) xfv.length zc] 25 (0, 0))) := by
              show _ = _
              rw [Below.heap_setCell _ _ _ _ hne]
              exact hr.out
            go_wp2_with fail
            go_roundg (xfv.length - (j2 + 1))
            case measure => omega
            case rel => exact ⟨j2 + 1, by omega, by go_num, hKn.out, hrn.out, hFn.out⟩
          · clear hj
            have DW := hid (D.out.step hK.out)
            have hcw := hid (hc.out.later hK.out)
            have h201w := hid ((hK.out.cell (p := ⟨qg, l.length, none⟩) hqg.out).trans h201.out)
            have hqgw := hid (Nat.lt_of_lt_of_le hqg.out hK.out.size)
            replace r2 := hid ((hK.out.block _ (lt_of_block r2.out)).trans r2.out)
            clear hK hr hF D hc h201 hqg hw5
            go_wp2_with fail
            clear d0 d1 d2 d3 d4
            refine (hgw.out _ _ hcw.out (hT.out _ DW.out)).mono ?_
            rintro e w7 ⟨cs7, rfl, h7, hr7, _⟩
            obtain ⟨ya, yc, ua, uc, rfl, _⟩ := hr7.inv
            replace hr7 : Hid (Rd w7 (Now w7) _ _) := hr7.keep (fun b hb => hb.2) (fun _ _ => rfl)
            go_upto_region 16 with fail
            obtain ⟨w8, hw8⟩ : ∃ w8, w8 = w7.alloc (.cells #[.int .i64 xk, .int .i64 xn, .string xs, .slice ya xl.length yc, .slice ua xfv.length uc] 25) := ⟨_, rfl⟩
            have h8 : Below w7.heap.size w7 w8 := by rw [hw8]; exact below_new _ _
            have r10 : Hid (w8.heap[w7.heap.size]? = some (.cells #[.int .i64 xk, .int .i64 xn, .string xs, .slice ya xl.length yc, .slice ua xfv.length uc] 25 (0, 0))) := by show _ = _; rw [hw8]; exact heap_alloc_new _ _
            rw [← hw8]
            clear hw8
            have h78 := h7.step h8
            replace h201w := hid ((h78.cell (p := ⟨qg, l.length, none⟩) hqgw.out).trans h201w.out)
            replace hqgw := hid (Nat.lt_of_lt_of_le hqgw.out h78.size)
            replace hr7 := hid (hr7.out.later h8)
            replace r2 := hid ((h78.block _ (lt_of_block r2.out)).trans r2.out)
            replace DW := hid (DW.out.step h78)
            replace hcw := hid (hcw.out.later h78)
            clear h7 h8 h78
            have a0 := box_at (j := 0) r2.out rfl
            have a1 := box_at (j := 1) r2.out rfl
            have a2 := box_at (j := 2) r2.out rfl
            have a3 := box_at (j := 3) r2.out rfl
            have a4 := box_at (j := 4) r2.out rfl
            go_wp2_with fail
            clear a0 a1 a2 a3 a4
            refine (po.out _ _ (hT.out _ DW.out) (hV0.out.later DW.out)).mono ?_
            rintro e w9 ⟨v9, rfl, h9, ho9⟩
            obtain ⟨pa, pc, rfl⟩ : ∃ a c, v9 = .slice a L2.length c := by
              rcases ho9.2 with ⟨h, h0⟩ | ⟨g, cap, cur, hv, _⟩
              · exact ⟨none, 0, by rw [h, h0]⟩
              · exact ⟨_, cap, hv⟩
            replace h9 := hid h9
            replace ho9 := hid ho9
            go_wp2_with fail
            go_loopg [14] L2.length (fun g i wr => ∃ (j : Nat) (ys : List Value), g + j = L2.length ∧ i = .int .i64 j ∧ wr.ownsRow w8.heap.size 5 1 (.slice pa L2.length pc) L2.length ys ∧ Below w8.heap.size w8 wr)
            case atStart => exact ⟨0, _, by omega, rfl, ho9.out, h9.out⟩
            case round =>
              clear h9 ho9
              obtain ⟨j3, ys, hj, rfl, hoy, hby⟩ := hrel
              by_cases hlt : j3 < L2.length
              · obtain ⟨gx, capx, hvx⟩ : ∃ gx cap, Value.slice pa L2.length pc = .slice (some ⟨gx, 0, none⟩) L2.length cap := by
                  rcases hoy.2 with ⟨_, h0⟩ | ⟨g, cap, cur, hv, _⟩
                  · omega
                  · exact ⟨g, cap, hv⟩
                injection hvx with e1 e2 e3
                subst e1 e3
                have hgx := (hoy.lt gx rfl).1
                obtain ⟨y, hy⟩ : ∃ y, ys[j3]? = some y := ⟨_, List.getElem?_eq_getElem (by rw [hoy.1]; omega)⟩
                have c0 := (hoy.cellAt j3 (by omega)).trans hy
                have f0 := hoy.frozenAt j3
                obtain ⟨hs1, hs2⟩ := hoy.stored j3 (.int .u8 99)
                have hby2 := hby.setCell (p := ⟨gx, j3, none⟩) hgx (.int .u8 99)
                replace hs1 := hid hs1
                replace hby2 := hid hby2
                clear hs2 hy hoy
                have ew : IntKind.i64.wrap ((j3 : Int) + 1) = (j3 : Int) + 1 := by
                  have := hlen0.out
                  rw [IntWalk.i64_in _ (by omega)]
                go_wp2_with fail
                go_roundg (L2.length - (j3 + 1))
                case measure => omega
                case rel => exact ⟨j3 + 1, ys.set j3 (.int .u8 99), by omega, by go_num, hs1.out, hby2.out⟩
              · clear hj hoy
                replace h201w := hid ((hby.cell (p := ⟨qg, l.length, none⟩) hqgw.out).trans h201w.out)
                replace hqgw := hid (Nat.lt_of_lt_of_le hqgw.out hby.size)
                replace r2 := hid ((hby.block _ (lt_of_block r2.out)).trans r2.out)
                replace r10 := hid ((hby.block _ (lt_of_block r10.out)).trans r10.out)
                replace DW := hid (DW.out.step hby)
                replace hcw := hid (hcw.out.later hby)
                replace hr7 := hid (hr7.out.later hby)
                clear hby
                have a0 := box_at (j := 0) r2.out rfl
                have a1 := box_at (j := 1) r2.out rfl
                have a2 := box_at (j := 2) r2.out rfl
                have a3 := box_at (j := 3) r2.out rfl
                have a4 := box_at (j := 4) r2.out rfl
                go_wp2_with fail
                clear a0 a1 a2 a3 a4
                refine (po.out _ _ (hT.out _ DW.out) (hV0.out.later DW.out)).mono ?_
                rintro e wB ⟨vB, rfl, hB, hoB⟩
                obtain ⟨qa, qc, rfl⟩ : ∃ a c, vB = .slice a L2.length c := by
                  rcases hoB.2 with ⟨h, h0⟩ | ⟨g, cap, cur, hv, _⟩
                  · exact ⟨none, 0, by rw [h, h0]⟩
                  · exact ⟨_, cap, hv⟩
                have hbB : Hid (Buf wr.heap.size 5 wr wB L2 (.slice qa L2.length qc)) := ⟨World.ownsRowF_of hoB, hB, hB.size⟩
                replace h201w := hid ((hB.cell (p := ⟨qg, l.length, none⟩) hqgw.out).trans h201w.out)
                replace hqgw := hid (Nat.lt_of_lt_of_le hqgw.out hB.size)
                replace r2 := hid ((hB.block _ (lt_of_block r2.out)).trans r2.out)
                replace r10 := hid ((hB.block _ (lt_of_block r10.out)).trans r10.out)
                replace DW := hid (DW.out.step hB)
                replace hcw := hid (hcw.out.later hB)
                replace hr7 := hid (hr7.out.later hB)
                clear hB hoB
                go_wp2_with fail
                refine (gr.out _ DW.out).mono ?_
                rintro e wC ⟨csC, rfl, hC, hrC⟩
                obtain ⟨ta, tc, oa, oc, rfl, _⟩ := hrC.inv
                replace hrC : Hid (Rd wC (Now wC) _ _) := hrC.keep (fun b hb => hb.2) (fun _ _ => rfl)
                go_upto_region 23 with fail
                obtain ⟨wD, hwD⟩ : ∃ wD, wD = wC.alloc (.cells #[.int .i64 xk, .int .i64 xn, .string xs, .slice ta xl.length tc, .slice oa xfv.length oc] 25) := ⟨_, rfl⟩
                have hD : Below wC.heap.size wC wD := by rw [hwD]; exact below_new _ _
                have r17 : Hid (wD.heap[wC.heap.size]? = some (.cells #[.int .i64 xk, .int .i64 xn, .string xs, .slice ta xl.length tc, .slice oa xfv.length oc] 25 (0, 0))) := by show _ = _; rw [hwD]; exact heap_alloc_new _ _
                rw [← hwD]
                clear hwD
                have hCD := hC.step hD
                replace h201w := hid ((hCD.cell (p := ⟨qg, l.length, none⟩) hqgw.out).trans h201w.out)
                replace hqgw := hid (Nat.lt_of_lt_of_le hqgw.out hCD.size)
                replace hrC := hid (hrC.out.later hD)
                replace hbB := hid (hbB.out.later hCD)
                replace r2 := hid ((hCD.block _ (lt_of_block r2.out)).trans r2.out)
                replace r10 := hid ((hCD.block _ (lt_of_block r10.out)).trans r10.out)
                replace DW := hid (DW.out.step hCD)
                replace hcw := hid (hcw.out.later hCD)
                replace hr7 := hid (hr7.out.later hCD)
                clear hC hD hCD
                have ez : (0 : Int) ≤ (l.length : Int) + 1 := by omega
                have ey : (l.length : Int) < (l.length : Int) + 1 := by omega
                have ecap : (l.length : Int) + 1 ≤ (cap3 : Int) := by omega
                have ew : IntKind.i64.wrap ((l.length : Int) + 1) = (l.length : Int) + 1 := by rw [IntWalk.i64_in _ (by omega)]
                replace hbB := hid (hbB.out.later (Below.refl _ _))
                by_cases hG : G = 0
                · subst hG
                  have hLe : L2 = en := hLb.out.resolve_left (fun h => h rfl)
                  have hS : Hid (∀ x, Below wD.heap.size wD x → KfS w.heap.size w7.heap.size wC.heap.size (.int .i64 k) (.int .i64 n) (.string s) (.slice la vl.length lc) (.slice fa fv.length fc) (.int .i64 xk) (.int .i64 xn) (.string xs) (.slice ya xl.length yc) (.slice ua xfv.length uc) (.int .i64 xk) (.int .i64 xn) (.string xs) (.slice ta xl.length tc) (.slice oa xfv.length oc) (.slice qa L2.length qc) (.slice (some ⟨qg, 0, none⟩) l.length cap3) (.slice ba l.length bc) ⟨en.toArray⟩ ⟨l.toArray⟩ qg l.length x) := fun x h => by
                    have e2 := (h.block _ (lt_of_block r2.out)).trans r2.out
                    have e10 := (h.block _ (lt_of_block r10.out)).trans r10.out
                    have e17 := (h.block _ (lt_of_block r17.out)).trans r17.out
                    exact ⟨box_at (j := 0) e2 rfl, box_at (j := 1) e2 rfl, box_at (j := 2) e2 rfl, box_at (j := 3) e2 rfl, box_at (j := 4) e2 rfl, box_at (j := 0) e10 rfl, box_at (j := 1) e10 rfl, box_at (j := 2) e10 rfl, box_at (j := 3) e10 rfl, box_at (j := 4) e10 rfl, box_at (j := 0) e17 rfl, box_at (j := 1) e17 rfl, box_at (j := 2) e17 rfl, box_at (j := 3) e17 rfl, box_at (j := 4) e17 rfl, (by rw [← hLe]; exact conv_buf Tryd.underlying26 Tryd.underlying5 Tryd.underlying9 (hbB.out.later h)), conv_all (hcw.out.later h), conv_all (hb0.out.later (DW.out.step h)), (h.cell (p := ⟨qg, l.length, none⟩) hqgw.out).trans h201w.out⟩
                  clear hLe hLb
                  clear hgw gr htx hbB r2 r10 r17 hcw h201w hqgw hT haw hv po
                  refine wp_region_T (KfS w.heap.size w7.heap.size wC.heap.size (.int .i64 k) (.int .i64 n) (.string s) (.slice la vl.length lc) (.slice fa fv.length fc) (.int .i64 xk) (.int .i64 xn) (.string xs) (.slice ya xl.length yc) (.slice ua xfv.length uc) (.int .i64 xk) (.int .i64 xn) (.string xs) (.slice ta xl.length tc) (.slice oa xfv.length oc) (.slice qa L2.length qc) (.slice (some ⟨qg, 0, none⟩) l.length cap3) (.slice ba l.length bc) ⟨en.toArray⟩ ⟨l.toArray⟩ qg l.length) 50 (by kernel_rfl) ?_
                  have hS0 := hS.out _ (Below.refl wD.heap.size wD).drew
                  ((refine wpAnyT_take (i := 0) (v := ?_) rfl (by kernel_rfl) (by kernel_rfl) (by kernel_rfl) (by kernel_rfl) (by exact fun _ _ _ h => h) (Or.inl ⟨by kernel_rfl, ?_⟩) hS0 ?_; rotate_left 1; focus (intro w hSw; unfold KfS at hSw; (try dsimp only at hSw); go_simp; try with_reducible rfl); (try simp only [List.getElem_toArray, List.getElem_cons_zero, List.getElem_cons_succ, Act.put, List.setIfInBounds_toArray, List.set_cons_zero, List.set_cons_succ])); (refine wpAnyT_take (i := 1) (v := ?_) rfl (by kernel_rfl) (by kernel_rfl) (by kernel_rfl) (by kernel_rfl) (by exact fun _ _ _ h => h) (Or.inl ⟨by kernel_rfl, ?_⟩) hS0 ?_; rotate_left 1; focus (intro w hSw; unfold KfS at hSw; (try dsimp only at hSw); go_simp; try with_reducible rfl); (try simp only [List.getElem_toArray, List.getElem_cons_zero, List.getElem_cons_succ, Act.put, List.setIfInBounds_toArray, List.set_cons_zero, List.set_cons_succ])); (refine wpAnyT_take (i := 2) (v := ?_) rfl (by kernel_rfl) (by kernel_rfl) (by kernel_rfl) (by kernel_rfl) (by exact fun _ _ _ h => h) (Or.inl ⟨by kernel_rfl, ?_⟩) hS0 ?_; rotate_left 1; focus (intro w hSw; unfold KfS at hSw; (try dsimp only at hSw); go_simp; try with_reducible rfl); (try simp only [List.getElem_toArray, List.getElem_cons_zero, List.getElem_cons_succ, Act.put, List.setIfInBounds_toArray, List.set_cons_zero, List.set_cons_succ])); (refine wpAnyT_take (i := 3) (v := ?_) rfl (by kernel_rfl) (by kernel_rfl) (by kernel_rfl) (by kernel_rfl) (by exact fun _ _ _ h => h) (Or.inl ⟨by kernel_rfl, ?_⟩) hS0 ?_; rotate_left 1; focus (intro w hSw; unfold KfS at hSw; (try dsimp only at hSw); go_simp; try with_reducible rfl); (try simp only [List.getElem_toArray, List.getElem_cons_zero, List.getElem_cons_succ, Act.put, List.setIfInBounds_toArray, List.set_cons_zero, List.set_cons_succ])); (refine wpAnyT_take (i := 4) (v := ?_) rfl (by kernel_rfl) (by kernel_rfl) (by kernel_rfl) (by kernel_rfl) (by exact fun _ _ _ h => h) (Or.inl ⟨by kernel_rfl, ?_⟩) hS0 ?_; rotate_left 1; focus (intro w hSw; unfold KfS at hSw; (try dsimp only at hSw); go_simp; try with_reducible rfl); (try simp only [List.getElem_toArray, List.getElem_cons_zero, List.getElem_cons_succ, Act.put, List.setIfInBounds_toArray, List.set_cons_zero, List.set_cons_succ])); (refine wpAnyT_take (i := 5) (v := ?_) rfl (by kernel_rfl) (by kernel_rfl) (by kernel_rfl) (by kernel_rfl) (by exact fun _ _ _ h => h) (Or.inl ⟨by kernel_rfl, ?_⟩) hS0 ?_; rotate_left 1; focus (intro w hSw; unfold KfS at hSw; (try dsimp only at hSw); go_simp; try with_reducible rfl); (try simp only [List.getElem_toArray, List.getElem_cons_zero, List.getElem_cons_succ, Act.put, List.setIfInBounds_toArray, List.set_cons_zero, List.set_cons_succ])); (refine wpAnyT_take (i := 6) (v := ?_) rfl (by kernel_rfl) (by kernel_rfl) (by kernel_rfl) (by kernel_rfl) (by exact fun _ _ _ h => h) (Or.inl ⟨by kernel_rfl, ?_⟩) hS0 ?_; rotate_left 1; focus (intro w hSw; unfold KfS at hSw; (try dsimp only at hSw); go_simp; try with_reducible rfl); (try simp only [List.getElem_toArray, List.getElem_cons_zero, List.getElem_cons_succ, Act.put, List.setIfInBounds_toArray, List.set_cons_zero, List.set_cons_succ])); (refine wpAnyT_take (i := 7) (v := ?_) rfl (by kernel_rfl) (by kernel_rfl) (by kernel_rfl) (by kernel_rfl) (by exact fun _ _ _ h => h) (Or.inl ⟨by kernel_rfl, ?_⟩) hS0 ?_; rotate_left 1; focus (intro w hSw; unfold KfS at hSw; (try dsimp only at hSw); go_simp; try with_reducible rfl); (try simp only [List.getElem_toArray, List.getElem_cons_zero, List.getElem_cons_succ, Act.put, List.setIfInBounds_toArray, List.set_cons_zero, List.set_cons_succ])); (refine wpAnyT_take (i := 8) (v := ?_) rfl (by kernel_rfl) (by kernel_rfl) (by kernel_rfl) (by kernel_rfl) (by exact fun _ _ _ h => h) (Or.inl ⟨by kernel_rfl, ?_⟩) hS0 ?_; rotate_left 1; focus (intro w hSw; unfold KfS at hSw; (try dsimp only at hSw); go_simp; try with_reducible rfl); (try simp only [List.getElem_toArray, List.getElem_cons_zero, List.getElem_cons_succ, Act.put, List.setIfInBounds_toArray, List.set_cons_zero, List.set_cons_succ])); (refine wpAnyT_take (i := 9) (v := ?_) rfl (by kernel_rfl) (by kernel_rfl) (by kernel_rfl) (by kernel_rfl) (by exact fun _ _ _ h => h) (Or.inl ⟨by kernel_rfl, ?_⟩) hS0 ?_; rotate_left 1; focus (intro w hSw; unfold KfS at hSw; (try dsimp only at hSw); go_simp; try with_reducible rfl); (try simp only [List.getElem_toArray, List.getElem_cons_zero, List.getElem_cons_succ, Act.put, List.setIfInBounds_toArray, List.set_cons_zero, List.set_cons_succ])); (refine wpAnyT_take (i := 10) (v := ?_) rfl (by kernel_rfl) (by kernel_rfl) (by kernel_rfl) (by kernel_rfl) (by exact fun _ _ _ h => h) (Or.inl ⟨by kernel_rfl, ?_⟩) hS0 ?_; rotate_left 1; focus (intro w hSw; unfold KfS at hSw; (try dsimp only at hSw); go_simp; try with_reducible rfl); (try simp only [List.getElem_toArray, List.getElem_cons_zero, List.getElem_cons_succ, Act.put, List.setIfInBounds_toArray, List.set_cons_zero, List.set_cons_succ])))
                  refine wpAnyT_one (i := 11) (by kernel_rfl) rfl (fun K hK => ?_)
                  go_simp
                  refine (hs3.out _ _ _ _ (hr7.out.later (Below.refl _ _).drew) (hrC.out.later (Below.refl _ _).drew)).mono ?_
                  rintro e wE ⟨rfl, hE⟩
                  have E1 := hid ((Below.refl wD.heap.size wD).drew.step hE)
                  clear hE hS0
                  have hS1 := hS.out _ E1.out
                  (refine hK.out _ _ (fun _ => hS1) (fun _ => ?_); clear hK K; (try simp only [Act.put, List.setIfInBounds_toArray, List.set_cons_zero, List.set_cons_succ]))
                  ((refine wpAnyT_take (i := 12) (v := ?_) rfl (by kernel_rfl) (by kernel_rfl) (by kernel_rfl) (by kernel_rfl) (by exact fun _ _ _ h => h) (Or.inl ⟨by kernel_rfl, ?_⟩) hS1 ?_; rotate_left 1; focus (intro w hSw; unfold KfS at hSw; (try dsimp only at hSw); go_simp; try with_reducible rfl); (try simp only [List.getElem_toArray, List.getElem_cons_zero, List.getElem_cons_succ, Act.put, List.setIfInBounds_toArray, List.set_cons_zero, List.set_cons_succ])); (refine wpAnyT_take (i := 13) (v := ?_) rfl (by kernel_rfl) (by kernel_rfl) (by kernel_rfl) (by kernel_rfl) (by exact fun _ _ _ h => h) (Or.inl ⟨by kernel_rfl, ?_⟩) hS1 ?_; rotate_left 1; focus (intro w hSw; unfold KfS at hSw; (try dsimp only at hSw); go_simp; try with_reducible rfl); (try simp only [List.getElem_toArray, List.getElem_cons_zero, List.getElem_cons_succ, Act.put, List.setIfInBounds_toArray, List.set_cons_zero, List.set_cons_succ])); (refine wpAnyT_take (i := 14) (v := ?_) rfl (by kernel_rfl) (by kernel_rfl) (by kernel_rfl) (by kernel_rfl) (by exact fun _ _ _ h => h) (Or.inl ⟨by kernel_rfl, ?_⟩) hS1 ?_; rotate_left 1; focus (intro w hSw; unfold KfS at hSw; (try dsimp only at hSw); go_simp; try with_reducible rfl); (try simp only [List.getElem_toArray, List.getElem_cons_zero, List.getElem_cons_succ, Act.put, List.setIfInBounds_toArray, List.set_cons_zero, List.set_cons_succ])); (refine wpAnyT_take (i := 15) (v := ?_) rfl (by kernel_rfl) (by kernel_rfl) (by kernel_rfl) (by kernel_rfl) (by exact fun _ _ _ h => h) (Or.inl ⟨by kernel_rfl, ?_⟩) hS1 ?_; rotate_left 1; focus (intro w hSw; unfold KfS at hSw; (try dsimp only at hSw); go_simp; try with_reducible rfl); (try simp only [List.getElem_toArray, List.getElem_cons_zero, List.getElem_cons_succ, Act.put, List.setIfInBounds_toArray, List.set_cons_zero, List.set_cons_succ])); (refine wpAnyT_take (i := 16) (v := ?_) rfl (by kernel_rfl) (by kernel_rfl) (by kernel_rfl) (by kernel_rfl) (by exact fun _ _ _ h => h) (Or.inl ⟨by kernel_rfl, ?_⟩) hS1 ?_; rotate_left 1; focus (intro w hSw; unfold KfS at hSw; (try dsimp only at hSw); go_simp; try with_reducible rfl); (try simp only [List.getElem_toArray, List.getElem_cons_zero, List.getElem_cons_succ, Act.put, List.setIfInBounds_toArray, List.set_cons_zero, List.set_cons_succ])); (refine wpAnyT_take (i := 17) (v := ?_) rfl (by kernel_rfl) (by kernel_rfl) (by kernel_rfl) (by kernel_rfl) (by exact fun _ _ _ h => h) (Or.inl ⟨by kernel_rfl, ?_⟩) hS1 ?_; rotate_left 1; focus (intro w hSw; unfold KfS at hSw; (try dsimp only at hSw); go_simp; try with_reducible rfl); (try simp only [List.getElem_toArray, List.getElem_cons_zero, List.getElem_cons_succ, Act.put, List.setIfInBounds_toArray, List.set_cons_zero, List.set_cons_succ])); (refine wpAnyT_take (i := 18) (v := ?_) rfl (by kernel_rfl) (by kernel_rfl) (by kernel_rfl) (by kernel_rfl) (by exact fun _ _ _ h => h) (Or.inl ⟨by kernel_rfl, ?_⟩) hS1 ?_; rotate_left 1; focus (intro w hSw; unfold KfS at hSw; (try dsimp only at hSw); go_simp; try with_reducible rfl); (try simp only [List.getElem_toArray, List.getElem_cons_zero, List.getElem_cons_succ, Act.put, List.setIfInBounds_toArray, List.set_cons_zero, List.set_cons_succ])); (refine wpAnyT_take (i := 19) (v := ?_) rfl (by kernel_rfl) (by kernel_rfl) (by kernel_rfl) (by kernel_rfl) (by exact fun _ _ _ h => h) (Or.inl ⟨by kernel_rfl, ?_⟩) hS1 ?_; rotate_left 1; focus (intro w hSw; unfold KfS at hSw; (try dsimp only at hSw); go_simp; try with_reducible rfl); (try simp only [List.getElem_toArray, List.getElem_cons_zero, List.getElem_cons_succ, Act.put, List.setIfInBounds_toArray, List.set_cons_zero, List.set_cons_succ])); (refine wpAnyT_take (i := 20) (v := ?_) rfl (by kernel_rfl) (by kernel_rfl) (by kernel_rfl) (by kernel_rfl) (by exact fun _ _ _ h => h) (Or.inl ⟨by kernel_rfl, ?_⟩) hS1 ?_; rotate_left 1; focus (intro w hSw; unfold KfS at hSw; (try dsimp only at hSw); go_simp; try with_reducible rfl); (try simp only [List.getElem_toArray, List.getElem_cons_zero, List.getElem_cons_succ, Act.put, List.setIfInBounds_toArray, List.set_cons_zero, List.set_cons_succ])); (refine wpAnyT_take (i := 21) (v := ?_) rfl (by kernel_rfl) (by kernel_rfl) (by kernel_rfl) (by kernel_rfl) (by exact fun _ _ _ h => h) (Or.inl ⟨by kernel_rfl, ?_⟩) hS1 ?_; rotate_left 1; focus (intro w hSw; unfold KfS at hSw; (try dsimp only at hSw); go_simp; try with_reducible rfl); (try simp only [List.getElem_toArray, List.getElem_cons_zero, List.getElem_cons_succ, Act.put, List.setIfInBounds_toArray, List.set_cons_zero, List.set_cons_succ])); (refine wpAnyT_take (i := 22) (v := ?_) rfl (by kernel_rfl) (by kernel_rfl) (by kernel_rfl) (by kernel_rfl) (by exact fun _ _ _ h => h) (Or.inl ⟨by kernel_rfl, ?_⟩) hS1 ?_; rotate_left 1; focus (intro w hSw; unfold KfS at hSw; (try dsimp only at hSw); go_simp; try with_reducible rfl); (try simp only [List.getElem_toArray, List.getElem_cons_zero, List.getElem_cons_succ, Act.put, List.setIfInBounds_toArray, List.set_cons_zero, List.set_cons_succ])); (refine wpAnyT_take (i := 23) (v := ?_) rfl (by kernel_rfl) (by kernel_rfl) (by kernel_rfl) (by kernel_rfl) (by exact fun _ _ _ h => h) (Or.inl ⟨by kernel_rfl, ?_⟩) hS1 ?_; rotate_left 1; focus (intro w hSw; unfold KfS at hSw; (try dsimp only at hSw); go_simp; try with_reducible rfl); (try simp only [List.getElem_toArray, List.getElem_cons_zero, List.getElem_cons_succ, Act.put, List.setIfInBounds_toArray, List.set_cons_zero, List.set_cons_succ])); (refine wpAnyT_take (i := 24) (v := ?_) rfl (by kernel_rfl) (by kernel_rfl) (by kernel_rfl) (by kernel_rfl) (by exact fun _ _ _ h => h) (Or.inl ⟨by kernel_rfl, ?_⟩) hS1 ?_; rotate_left 1; focus (intro w hSw; unfold KfS at hSw; (try dsimp only at hSw); go_simp; try with_reducible rfl); (try simp only [List.getElem_toArray, List.getElem_cons_zero, List.getElem_cons_succ, Act.put, List.setIfInBounds_toArray, List.set_cons_zero, List.set_cons_succ])))
                  refine wpAnyT_one (i := 25) (by kernel_rfl) rfl (fun K hK => ?_)
                  go_simp
                  refine (gb.out _ _ (hV0.out.later (DW.out.step E1.out))).mono ?_
                  rintro e wF ⟨vF, rfl, gF, cF, rfl, hmF⟩
                  have E2 := hid (E1.out.step hmF.below)
                  have cvF := conv_buf (P := Tryd.prog) Tryd.underlying26 Tryd.underlying5 Tryd.underlying9 hmF
                  clear hmF hS1
                  have hS2 := hS.out _ E2.out
                  (refine hK.out _ _ (fun _ => hS2) (fun _ => ?_); clear hK K; (try simp only [Act.put, List.setIfInBounds_toArray, List.set_cons_zero, List.set_cons_succ]))
                  refine wpAnyT_one (i := 26) (by kernel_rfl) rfl (fun K hK => ?_)
                  go_simp
                  (refine hK.out _ _ (fun _ => hS2) (fun _ => ?_); clear hK K; (try simp only [Act.put, List.setIfInBounds_toArray, List.set_cons_zero, List.set_cons_succ]))
                  clear cvF
                  ((refine wpAnyT_take (i := 27) (v := ?_) rfl (by kernel_rfl) (by kernel_rfl) (by kernel_rfl) (by kernel_rfl) (by exact fun _ _ _ h => h) (Or.inl ⟨by kernel_rfl, ?_⟩) hS2 ?_; rotate_left 1; focus (intro w hSw; unfold KfS at hSw; (try dsimp only at hSw); go_simp; try with_reducible rfl); (try simp only [List.getElem_toArray, List.getElem_cons_zero, List.getElem_cons_succ, Act.put, List.setIfInBounds_toArray, List.set_cons_zero, List.set_cons_succ])); (refine wpAnyT_take (i := 28) (v := ?_) rfl (by kernel_rfl) (by kernel_rfl) (by kernel_rfl) (by kernel_rfl) (by exact fun _ _ _ h => h) (Or.inl ⟨by kernel_rfl, ?_⟩) hS2 ?_; rotate_left 1; focus (intro w hSw; unfold KfS at hSw; (try dsimp only at hSw); go_simp; try with_reducible rfl); (try simp only [List.getElem_toArray, List.getElem_cons_zero, List.getElem_cons_succ, Act.put, List.setIfInBounds_toArray, List.set_cons_zero, List.set_cons_succ])); (refine wpAnyT_take (i := 29) (v := ?_) rfl (by kernel_rfl) (by kernel_rfl) (by kernel_rfl) (by kernel_rfl) (by exact fun _ _ _ h => h) (Or.inl ⟨by kernel_rfl, ?_⟩) hS2 ?_; rotate_left 1; focus (intro w hSw; unfold KfS at hSw; (try dsimp only at hSw); go_simp; try with_reducible rfl); (try simp only [List.getElem_toArray, List.getElem_cons_zero, List.getElem_cons_succ, Act.put, List.setIfInBounds_toArray, List.set_cons_zero, List.set_cons_succ])); (refine wpAnyT_take (i := 30) (v := ?_) rfl (by kernel_rfl) (by kernel_rfl) (by kernel_rfl) (by kernel_rfl) (by exact fun _ _ _ h => h) (Or.inl ⟨by kernel_rfl, ?_⟩) hS2 ?_; rotate_left 1; focus (intro w hSw; unfold KfS at hSw; (try dsimp only at hSw); go_simp; try with_reducible rfl); (try simp only [List.getElem_toArray, List.getElem_cons_zero, List.getElem_cons_succ, Act.put, List.setIfInBounds_toArray, List.set_cons_zero, List.set_cons_succ])); (refine wpAnyT_take (i := 31) (v := ?_) rfl (by kernel_rfl) (by kernel_rfl) (by kernel_rfl) (by kernel_rfl) (by exact fun _ _ _ h => h) (Or.inl ⟨by kernel_rfl, ?_⟩) hS2 ?_; rotate_left 1; focus (intro w hSw; unfold KfS at hSw; (try dsimp only at hSw); go_simp; try with_reducible rfl); (try simp only [List.getElem_toArray, List.getElem_cons_zero, List.getElem_cons_succ, Act.put, List.setIfInBounds_toArray, List.set_cons_zero, List.set_cons_succ])); (refine wpAnyT_take (i := 32) (v := ?_) rfl (by kernel_rfl) (by kernel_rfl) (by kernel_rfl) (by kernel_rfl) (by exact fun _ _ _ h => h) (Or.inl ⟨by kernel_rfl, ?_⟩) hS2 ?_; rotate_left 1; focus (intro w hSw; unfold KfS at hSw; (try dsimp only at hSw); go_simp; try with_reducible rfl); (try simp only [List.getElem_toArray, List.getElem_cons_zero, List.getElem_cons_succ, Act.put, List.setIfInBounds_toArray, List.set_cons_zero, List.set_cons_succ])); (refine wpAnyT_take (i := 33) (v := ?_) rfl (by kernel_rfl) (by kernel_rfl) (by kernel_rfl) (by kernel_rfl) (by exact fun _ _ _ h => h) (Or.inl ⟨by kernel_rfl, ?_⟩) hS2 ?_; rotate_left 1; focus (intro w hSw; unfold KfS at hSw; (try dsimp only at hSw); go_simp; try with_reducible rfl); (try simp only [List.getElem_toArray, List.getElem_cons_zero, List.getElem_cons_succ, Act.put, List.setIfInBounds_toArray, List.set_cons_zero, List.set_cons_succ])); (refine wpAnyT_take (i := 34) (v := ?_) rfl (by kernel_rfl) (by kernel_rfl) (by kernel_rfl) (by kernel_rfl) (by exact fun _ _ _ h => h) (Or.inl ⟨by kernel_rfl, ?_⟩) hS2 ?_; rotate_left 1; focus (intro w hSw; unfold KfS at hSw; (try dsimp only at hSw); go_simp; try with_reducible rfl); (try simp only [List.getElem_toArray, List.getElem_cons_zero, List.getElem_cons_succ, Act.put, List.setIfInBounds_toArray, List.set_cons_zero, List.set_cons_succ])); (refine wpAnyT_take (i := 35) (v := ?_) rfl (by kernel_rfl) (by kernel_rfl) (by kernel_rfl) (by kernel_rfl) (by exact fun _ _ _ h => h) (Or.inl ⟨by kernel_rfl, ?_⟩) hS2 ?_; rotate_left 1; focus (intro w hSw; unfold KfS at hSw; (try dsimp only at hSw); go_simp; try with_reducible rfl); (try simp only [List.getElem_toArray, List.getElem_cons_zero, List.getElem_cons_succ, Act.put, List.setIfInBounds_toArray, List.set_cons_zero, List.set_cons_succ])); (refine wpAnyT_take (i := 36) (v := ?_) rfl (by kernel_rfl) (by kernel_rfl) (by kernel_rfl) (by kernel_rfl) (by exact fun _ _ _ h => h) (Or.inl ⟨by kernel_rfl, ?_⟩) hS2 ?_; rotate_left 1; focus (intro w hSw; unfold KfS at hSw; (try dsimp only at hSw); go_simp; try with_reducible rfl); (try simp only [List.getElem_toArray, List.getElem_cons_zero, List.getElem_cons_succ, Act.put, List.setIfInBounds_toArray, List.set_cons_zero, List.set_cons_succ])); (refine wpAnyT_take (i := 37) (v := ?_) rfl (by kernel_rfl) (by kernel_rfl) (by kernel_rfl) (by kernel_rfl) (by exact fun _ _ _ h => h) (Or.inl ⟨by kernel_rfl, ?_⟩) hS2 ?_; rotate_left 1; focus (intro w hSw; unfold KfS at hSw; (try dsimp only at hSw); go_simp; try with_reducible rfl); (try simp only [List.getElem_toArray, List.getElem_cons_zero, List.getElem_cons_succ, Act.put, List.setIfInBounds_toArray, List.set_cons_zero, List.set_cons_succ])); (refine wpAnyT_take (i := 38) (v := ?_) rfl (by kernel_rfl) (by kernel_rfl) (by kernel_rfl) (by kernel_rfl) (by exact fun _ _ _ h => h) (Or.inl ⟨by kernel_rfl, ?_⟩) hS2 ?_; rotate_left 1; focus (intro w hSw; unfold KfS at hSw; (try dsimp only at hSw); go_simp; try with_reducible rfl); (try simp only [List.getElem_toArray, List.getElem_cons_zero, List.getElem_cons_succ, Act.put, List.setIfInBounds_toArray, List.set_cons_zero, List.set_cons_succ])); (refine wpAnyT_take (i := 39) (v := ?_) rfl (by kernel_rfl) (by kernel_rfl) (by kernel_rfl) (by kernel_rfl) (by exact fun _ _ _ h => h) (Or.inl ⟨by kernel_rfl, ?_⟩) hS2 ?_; rotate_left 1; focus (intro w hSw; unfold KfS at hSw; (try dsimp only at hSw); go_simp; try with_reducible rfl); (try simp only [List.getElem_toArray, List.getElem_cons_zero, List.getElem_cons_succ, Act.put, List.setIfInBounds_toArray, List.set_cons_zero, List.set_cons_succ])); (refine wpAnyT_take (i := 40) (v := ?_) rfl (by kernel_rfl) (by kernel_rfl) (by kernel_rfl) (by kernel_rfl) (by exact fun _ _ _ h => h) (Or.inl ⟨by kernel_rfl, ?_⟩) hS2 ?_; rotate_left 1; focus (intro w hSw; unfold KfS at hSw; (try dsimp only at hSw); go_simp; try with_reducible rfl); (try simp only [List.getElem_toArray, List.getElem_cons_zero, List.getElem_cons_succ, Act.put, List.setIfInBounds_toArray, List.set_cons_zero, List.set_cons_succ])); (refine wpAnyT_take (i := 41) (v := ?_) rfl (by kernel_rfl) (by kernel_rfl) (by kernel_rfl) (by kernel_rfl) (by exact fun _ _ _ h => h) (Or.inl ⟨by kernel_rfl, ?_⟩) hS2 ?_; rotate_left 1; focus (intro w hSw; unfold KfS at hSw; (try dsimp only at hSw); go_simp; try with_reducible rfl); (try simp only [List.getElem_toArray, List.getElem_cons_zero, List.getElem_cons_succ, Act.put, List.setIfInBounds_toArray, List.set_cons_zero, List.set_cons_succ])); (refine wpAnyT_take (i := 42) (v := ?_) rfl (by kernel_rfl) (by kernel_rfl) (by kernel_rfl) (by kernel_rfl) (by exact fun _ _ _ h => h) (Or.inl ⟨by kernel_rfl, ?_⟩) hS2 ?_; rotate_left 1; focus (intro w hSw; unfold KfS at hSw; (try dsimp only at hSw); go_simp; try with_reducible rfl); (try simp only [List.getElem_toArray, List.getElem_cons_zero, List.getElem_cons_succ, Act.put, List.setIfInBounds_toArray, List.set_cons_zero, List.set_cons_succ])); (refine wpAnyT_take (i := 43) (v := ?_) rfl (by kernel_rfl) (by kernel_rfl) (by kernel_rfl) (by kernel_rfl) (by exact fun _ _ _ h => h) (Or.inl ⟨by kernel_rfl, ?_⟩) hS2 ?_; rotate_left 1; focus (intro w hSw; unfold KfS at hSw; (try dsimp only at hSw); go_simp; try with_reducible rfl); (try simp only [List.getElem_toArray, List.getElem_cons_zero, List.getElem_cons_succ, Act.put, List.setIfInBounds_toArray, List.set_cons_zero, List.set_cons_succ])); (refine wpAnyT_take (i := 44) (v := ?_) rfl (by kernel_rfl) (by kernel_rfl) (by kernel_rfl) (by kernel_rfl) (by exact fun _ _ _ h => h) (Or.inl ⟨by kernel_rfl, ?_⟩) hS2 ?_; rotate_left 1; focus (intro w hSw; unfold KfS at hSw; (try dsimp only at hSw); go_simp; try with_reducible rfl); (try simp only [List.getElem_toArray, List.getElem_cons_zero, List.getElem_cons_succ, Act.put, List.setIfInBounds_toArray, List.set_cons_zero, List.set_cons_succ])); (refine wpAnyT_take (i := 45) (v := ?_) rfl (by kernel_rfl) (by kernel_rfl) (by kernel_rfl) (by kernel_rfl) (by exact fun _ _ _ h => h) (Or.inl ⟨by kernel_rfl, ?_⟩) hS2 ?_; rotate_left 1; focus (intro w hSw; unfold KfS at hSw; (try dsimp only at hSw); go_simp; try with_reducible rfl); (try simp only [List.getElem_toArray, List.getElem_cons_zero, List.getElem_cons_succ, Act.put, List.setIfInBounds_toArray, List.set_cons_zero, List.set_cons_succ])); (refine wpAnyT_take (i := 46) (v := ?_) rfl (by kernel_rfl) (by kernel_rfl) (by kernel_rfl) (by kernel_rfl) (by exact fun _ _ _ h => h) (Or.inl ⟨by kernel_rfl, ?_⟩) hS2 ?_; rotate_left 1; focus (intro w hSw; unfold KfS at hSw; (try dsimp only at hSw); go_simp; try with_reducible rfl); (try simp only [List.getElem_toArray, List.getElem_cons_zero, List.getElem_cons_succ, Act.put, List.setIfInBounds_toArray, List.set_cons_zero, List.set_cons_succ])); (refine wpAnyT_take (i := 47) (v := ?_) rfl (by kernel_rfl) (by kernel_rfl) (by kernel_rfl) (by kernel_rfl) (by exact fun _ _ _ h => h) (Or.inl ⟨by kernel_rfl, ?_⟩) hS2 ?_; rotate_left 1; focus (intro w hSw; unfold KfS at hSw; (try dsimp only at hSw); go_simp; try with_reducible rfl); (try simp only [List.getElem_toArray, List.getElem_cons_zero, List.getElem_cons_succ, Act.put, List.setIfInBounds_toArray, List.set_cons_zero, List.set_cons_succ])); (refine wpAnyT_take (i := 48) (v := ?_) rfl (by kernel_rfl) (by kernel_rfl) (by kernel_rfl) (by kernel_rfl) (by exact fun _ _ _ h => h) (Or.inl ⟨by kernel_rfl, ?_⟩) hS2 ?_; rotate_left 1; focus (intro w hSw; unfold KfS at hSw; (try dsimp only at hSw); go_simp; try with_reducible rfl); (try simp only [List.getElem_toArray, List.getElem_cons_zero, List.getElem_cons_succ, Act.put, List.setIfInBounds_toArray, List.set_cons_zero, List.set_cons_succ])); (refine wpAnyT_take (i := 49) (v := ?_) rfl (by kernel_rfl) (by kernel_rfl) (by kernel_rfl) (by kernel_rfl) (by exact fun _ _ _ h => h) (Or.inl ⟨by kernel_rfl, ?_⟩) hS2 ?_; rotate_left 1; focus (intro w hSw; unfold KfS at hSw; (try dsimp only at hSw); go_simp; try with_reducible rfl); (try simp only [List.getElem_toArray, List.getElem_cons_zero, List.getElem_cons_succ, Act.put, List.setIfInBounds_toArray, List.set_cons_zero, List.set_cons_succ])))
                  refine wpAnyT_done (by kernel_rfl) ?_ _
                  go_wp2_with fail
                  go_ret
                  exact ⟨by kernel_rfl, DW.out.step E2.out⟩

                · have hG2 : (G != 0) = true := by simp [hG]
                  have hG3 : (G == 0) = false := by simp [hG]
                  have hS : Hid (∀ x, Below wD.heap.size wD x → KfS w.heap.size w7.heap.size wC.heap.size (.int .i64 k) (.int .i64 n) (.string s) (.slice la vl.length lc) (.slice fa fv.length fc) (.int .i64 xk) (.int .i64 xn) (.string xs) (.slice ya xl.length yc) (.slice ua xfv.length uc) (.int .i64 xk) (.int .i64 xn) (.string xs) (.slice ta xl.length tc) (.slice oa xfv.length oc) (.slice qa L2.length qc) (.slice (some ⟨qg, 0, none⟩) l.length cap3) (.slice ba l.length bc) ⟨L2.toArray⟩ ⟨l.toArray⟩ qg l.length x) := fun x h => by
                    have e2 := (h.block _ (lt_of_block r2.out)).trans r2.out
                    have e10 := (h.block _ (lt_of_block r10.out)).trans r10.out
                    have e17 := (h.block _ (lt_of_block r17.out)).trans r17.out
                    exact ⟨box_at (j := 0) e2 rfl, box_at (j := 1) e2 rfl, box_at (j := 2) e2 rfl, box_at (j := 3) e2 rfl, box_at (j := 4) e2 rfl, box_at (j := 0) e10 rfl, box_at (j := 1) e10 rfl, box_at (j := 2) e10 rfl, box_at (j := 3) e10 rfl, box_at (j := 4) e10 rfl, box_at (j := 0) e17 rfl, box_at (j := 1) e17 rfl, box_at (j := 2) e17 rfl, box_at (j := 3) e17 rfl, box_at (j := 4) e17 rfl, conv_buf Tryd.underlying26 Tryd.underlying5 Tryd.underlying9 (hbB.out.later h), conv_all (hcw.out.later h), conv_all (hb0.out.later (DW.out.step h)), (h.cell (p := ⟨qg, l.length, none⟩) hqgw.out).trans h201w.out⟩
                  clear hLb
                  clear hgw gr htx hbB r2 r10 r17 hcw h201w hqgw hT haw hv po
                  refine wp_region_T (KfS w.heap.size w7.heap.size wC.heap.size (.int .i64 k) (.int .i64 n) (.string s) (.slice la vl.length lc) (.slice fa fv.length fc) (.int .i64 xk) (.int .i64 xn) (.string xs) (.slice ya xl.length yc) (.slice ua xfv.length uc) (.int .i64 xk) (.int .i64 xn) (.string xs) (.slice ta xl.length tc) (.slice oa xfv.length oc) (.slice qa L2.length qc) (.slice (some ⟨qg, 0, none⟩) l.length cap3) (.slice ba l.length bc) ⟨L2.toArray⟩ ⟨l.toArray⟩ qg l.length) 50 (by kernel_rfl) ?_
                  have hS0 := hS.out _ (Below.refl wD.heap.size wD).drew
                  ((refine wpAnyT_take (i := 0) (v := ?_) rfl (by kernel_rfl) (by kernel_rfl) (by kernel_rfl) (by kernel_rfl) (by exact fun _ _ _ h => h) (Or.inl ⟨by kernel_rfl, ?_⟩) hS0 ?_; rotate_left 1; focus (intro w hSw; unfold KfS at hSw; (try dsimp only at hSw); go_simp; try with_reducible rfl); (try simp only [List.getElem_toArray, List.getElem_cons_zero, List.getElem_cons_succ, Act.put, List.setIfInBounds_toArray, List.set_cons_zero, List.set_cons_succ])); (refine wpAnyT_take (i := 1) (v := ?_) rfl (by kernel_rfl) (by kernel_rfl) (by kernel_rfl) (by kernel_rfl) (by exact fun _ _ _ h => h) (Or.inl ⟨by kernel_rfl, ?_⟩) hS0 ?_; rotate_left 1; focus (intro w hSw; unfold KfS at hSw; (try dsimp only at hSw); go_simp; try with_reducible rfl); (try simp only [List.getElem_toArray, List.getElem_cons_zero, List.getElem_cons_succ, Act.put, List.setIfInBounds_toArray, List.set_cons_zero, List.set_cons_succ])); (refine wpAnyT_take (i := 2) (v := ?_) rfl (by kernel_rfl) (by kernel_rfl) (by kernel_rfl) (by kernel_rfl) (by exact fun _ _ _ h => h) (Or.inl ⟨by kernel_rfl, ?_⟩) hS0 ?_; rotate_left 1; focus (intro w hSw; unfold KfS at hSw; (try dsimp only at hSw); go_simp; try with_reducible rfl); (try simp only [List.getElem_toArray, List.getElem_cons_zero, List.getElem_cons_succ, Act.put, List.setIfInBounds_toArray, List.set_cons_zero, List.set_cons_succ])); (refine wpAnyT_take (i := 3) (v := ?_) rfl (by kernel_rfl) (by kernel_rfl) (by kernel_rfl) (by kernel_rfl) (by exact fun _ _ _ h => h) (Or.inl ⟨by kernel_rfl, ?_⟩) hS0 ?_; rotate_left 1; focus (intro w hSw; unfold KfS at hSw; (try dsimp only at hSw); go_simp; try with_reducible rfl); (try simp only [List.getElem_toArray, List.getElem_cons_zero, List.getElem_cons_succ, Act.put, List.setIfInBounds_toArray, List.set_cons_zero, List.set_cons_succ])); (refine wpAnyT_take (i := 4) (v := ?_) rfl (by kernel_rfl) (by kernel_rfl) (by kernel_rfl) (by kernel_rfl) (by exact fun _ _ _ h => h) (Or.inl ⟨by kernel_rfl, ?_⟩) hS0 ?_; rotate_left 1; focus (intro w hSw; unfold KfS at hSw; (try dsimp only at hSw); go_simp; try with_reducible rfl); (try simp only [List.getElem_toArray, List.getElem_cons_zero, List.getElem_cons_succ, Act.put, List.setIfInBounds_toArray, List.set_cons_zero, List.set_cons_succ])); (refine wpAnyT_take (i := 5) (v := ?_) rfl (by kernel_rfl) (by kernel_rfl) (by kernel_rfl) (by kernel_rfl) (by exact fun _ _ _ h => h) (Or.inl ⟨by kernel_rfl, ?_⟩) hS0 ?_; rotate_left 1; focus (intro w hSw; unfold KfS at hSw; (try dsimp only at hSw); go_simp; try with_reducible rfl); (try simp only [List.getElem_toArray, List.getElem_cons_zero, List.getElem_cons_succ, Act.put, List.setIfInBounds_toArray, List.set_cons_zero, List.set_cons_succ])); (refine wpAnyT_take (i := 6) (v := ?_) rfl (by kernel_rfl) (by kernel_rfl) (by kernel_rfl) (by kernel_rfl) (by exact fun _ _ _ h => h) (Or.inl ⟨by kernel_rfl, ?_⟩) hS0 ?_; rotate_left 1; focus (intro w hSw; unfold KfS at hSw; (try dsimp only at hSw); go_simp; try with_reducible rfl); (try simp only [List.getElem_toArray, List.getElem_cons_zero, List.getElem_cons_succ, Act.put, List.setIfInBounds_toArray, List.set_cons_zero, List.set_cons_succ])); (refine wpAnyT_take (i := 7) (v := ?_) rfl (by kernel_rfl) (by kernel_rfl) (by kernel_rfl) (by kernel_rfl) (by exact fun _ _ _ h => h) (Or.inl ⟨by kernel_rfl, ?_⟩) hS0 ?_; rotate_left 1; focus (intro w hSw; unfold KfS at hSw; (try dsimp only at hSw); go_simp; try with_reducible rfl); (try simp only [List.getElem_toArray, List.getElem_cons_zero, List.getElem_cons_succ, Act.put, List.setIfInBounds_toArray, List.set_cons_zero, List.set_cons_succ])); (refine wpAnyT_take (i := 8) (v := ?_) rfl (by kernel_rfl) (by kernel_rfl) (by kernel_rfl) (by kernel_rfl) (by exact fun _ _ _ h => h) (Or.inl ⟨by kernel_rfl, ?_⟩) hS0 ?_; rotate_left 1; focus (intro w hSw; unfold KfS at hSw; (try dsimp only at hSw); go_simp; try with_reducible rfl); (try simp only [List.getElem_toArray, List.getElem_cons_zero, List.getElem_cons_succ, Act.put, List.setIfInBounds_toArray, List.set_cons_zero, List.set_cons_succ])); (refine wpAnyT_take (i := 9) (v := ?_) rfl (by kernel_rfl) (by kernel_rfl) (by kernel_rfl) (by kernel_rfl) (by exact fun _ _ _ h => h) (Or.inl ⟨by kernel_rfl, ?_⟩) hS0 ?_; rotate_left 1; focus (intro w hSw; unfold KfS at hSw; (try dsimp only at hSw); go_simp; try with_reducible rfl); (try simp only [List.getElem_toArray, List.getElem_cons_zero, List.getElem_cons_succ, Act.put, List.setIfInBounds_toArray, List.set_cons_zero, List.set_cons_succ])); (refine wpAnyT_take (i := 10) (v := ?_) rfl (by kernel_rfl) (by kernel_rfl) (by kernel_rfl) (by kernel_rfl) (by exact fun _ _ _ h => h) (Or.inl ⟨by kernel_rfl, ?_⟩) hS0 ?_; rotate_left 1; focus (intro w hSw; unfold KfS at hSw; (try dsimp only at hSw); go_simp; try with_reducible rfl); (try simp only [List.getElem_toArray, List.getElem_cons_zero, List.getElem_cons_succ, Act.put, List.setIfInBounds_toArray, List.set_cons_zero, List.set_cons_succ])))
                  refine wpAnyT_one (i := 11) (by kernel_rfl) rfl (fun K hK => ?_)
                  go_simp
                  refine (hs3.out _ _ _ _ (hr7.out.later (Below.refl _ _).drew) (hrC.out.later (Below.refl _ _).drew)).mono ?_
                  rintro e wE ⟨rfl, hE⟩
                  have E1 := hid ((Below.refl wD.heap.size wD).drew.step hE)
                  clear hE hS0
                  have hS1 := hS.out _ E1.out
                  (refine hK.out _ _ (fun _ => hS1) (fun _ => ?_); clear hK K; (try simp only [Act.put, List.setIfInBounds_toArray, List.set_cons_zero, List.set_cons_succ]))
                  ((refine wpAnyT_take (i := 12) (v := ?_) rfl (by kernel_rfl) (by kernel_rfl) (by kernel_rfl) (by kernel_rfl) (by exact fun _ _ _ h => h) (Or.inl ⟨by kernel_rfl, ?_⟩) hS1 ?_; rotate_left 1; focus (intro w hSw; unfold KfS at hSw; (try dsimp only at hSw); go_simp; try with_reducible rfl); (try simp only [List.getElem_toArray, List.getElem_cons_zero, List.getElem_cons_succ, Act.put, List.setIfInBounds_toArray, List.set_cons_zero, List.set_cons_succ])); (refine wpAnyT_take (i := 13) (v := ?_) rfl (by kernel_rfl) (by kernel_rfl) (by kernel_rfl) (by kernel_rfl) (by exact fun _ _ _ h => h) (Or.inl ⟨by kernel_rfl, ?_⟩) hS1 ?_; rotate_left 1; focus (intro w hSw; unfold KfS at hSw; (try dsimp only at hSw); go_simp; try with_reducible rfl); (try simp only [List.getElem_toArray, List.getElem_cons_zero, List.getElem_cons_succ, Act.put, List.setIfInBounds_toArray, List.set_cons_zero, List.set_cons_succ])); (refine wpAnyT_take (i := 14) (v := ?_) rfl (by kernel_rfl) (by kernel_rfl) (by kernel_rfl) (by kernel_rfl) (by exact fun _ _ _ h => h) (Or.inl ⟨by kernel_rfl, ?_⟩) hS1 ?_; rotate_left 1; focus (intro w hSw; unfold KfS at hSw; (try dsimp only at hSw); go_simp; try with_reducible rfl); (try simp only [List.getElem_toArray, List.getElem_cons_zero, List.getElem_cons_succ, Act.put, List.setIfInBounds_toArray, List.set_cons_zero, List.set_cons_succ])); (refine wpAnyT_take (i := 15) (v := ?_) rfl (by kernel_rfl) (by kernel_rfl) (by kernel_rfl) (by kernel_rfl) (by exact fun _ _ _ h => h) (Or.inl ⟨by kernel_rfl, ?_⟩) hS1 ?_; rotate_left 1; focus (intro w hSw; unfold KfS at hSw; (try dsimp only at hSw); go_simp; try with_reducible rfl); (try simp only [List.getElem_toArray, List.getElem_cons_zero, List.getElem_cons_succ, Act.put, List.setIfInBounds_toArray, List.set_cons_zero, List.set_cons_succ])); (refine wpAnyT_take (i := 16) (v := ?_) rfl (by kernel_rfl) (by kernel_rfl) (by kernel_rfl) (by kernel_rfl) (by exact fun _ _ _ h => h) (Or.inl ⟨by kernel_rfl, ?_⟩) hS1 ?_; rotate_left 1; focus (intro w hSw; unfold KfS at hSw; (try dsimp only at hSw); go_simp; try with_reducible rfl); (try simp only [List.getElem_toArray, List.getElem_cons_zero, List.getElem_cons_succ, Act.put, List.setIfInBounds_toArray, List.set_cons_zero, List.set_cons_succ])); (refine wpAnyT_take (i := 17) (v := ?_) rfl (by kernel_rfl) (by kernel_rfl) (by kernel_rfl) (by kernel_rfl) (by exact fun _ _ _ h => h) (Or.inl ⟨by kernel_rfl, ?_⟩) hS1 ?_; rotate_left 1; focus (intro w hSw; unfold KfS at hSw; (try dsimp only at hSw); go_simp; try with_reducible rfl); (try simp only [List.getElem_toArray, List.getElem_cons_zero, List.getElem_cons_succ, Act.put, List.setIfInBounds_toArray, List.set_cons_zero, List.set_cons_succ])); (refine wpAnyT_take (i := 18) (v := ?_) rfl (by kernel_rfl) (by kernel_rfl) (by kernel_rfl) (by kernel_rfl) (by exact fun _ _ _ h => h) (Or.inl ⟨by kernel_rfl, ?_⟩) hS1 ?_; rotate_left 1; focus (intro w hSw; unfold KfS at hSw; (try dsimp only at hSw); go_simp; try with_reducible rfl); (try simp only [List.getElem_toArray, List.getElem_cons_zero, List.getElem_cons_succ, Act.put, List.setIfInBounds_toArray, List.set_cons_zero, List.set_cons_succ])); (refine wpAnyT_take (i := 19) (v := ?_) rfl (by kernel_rfl) (by kernel_rfl) (by kernel_rfl) (by kernel_rfl) (by exact fun _ _ _ h => h) (Or.inl ⟨by kernel_rfl, ?_⟩) hS1 ?_; rotate_left 1; focus (intro w hSw; unfold KfS at hSw; (try dsimp only at hSw); go_simp; try with_reducible rfl); (try simp only [List.getElem_toArray, List.getElem_cons_zero, List.getElem_cons_succ, Act.put, List.setIfInBounds_toArray, List.set_cons_zero, List.set_cons_succ])); (refine wpAnyT_take (i := 20) (v := ?_) rfl (by kernel_rfl) (by kernel_rfl) (by kernel_rfl) (by kernel_rfl) (by exact fun _ _ _ h => h) (Or.inl ⟨by kernel_rfl, ?_⟩) hS1 ?_; rotate_left 1; focus (intro w hSw; unfold KfS at hSw; (try dsimp only at hSw); go_simp; try with_reducible rfl); (try simp only [List.getElem_toArray, List.getElem_cons_zero, List.getElem_cons_succ, Act.put, List.setIfInBounds_toArray, List.set_cons_zero, List.set_cons_succ])); (refine wpAnyT_take (i := 21) (v := ?_) rfl (by kernel_rfl) (by kernel_rfl) (by kernel_rfl) (by kernel_rfl) (by exact fun _ _ _ h => h) (Or.inl ⟨by kernel_rfl, ?_⟩) hS1 ?_; rotate_left 1; focus (intro w hSw; unfold KfS at hSw; (try dsimp only at hSw); go_simp; try with_reducible rfl); (try simp only [List.getElem_toArray, List.getElem_cons_zero, List.getElem_cons_succ, Act.put, List.setIfInBounds_toArray, List.set_cons_zero, List.set_cons_succ])))
                  ((refine wpAnyT_take (i := 22) (v := _) rfl (by kernel_rfl) (by kernel_rfl) (by kernel_rfl) (by kernel_rfl) (by exact fun _ _ _ h => h) (Or.inr ⟨by kernel_rfl, rfl⟩) hS1 ?_; (try simp only [List.getElem_toArray, List.getElem_cons_zero, List.getElem_cons_succ, Act.put, List.setIfInBounds_toArray, List.set_cons_zero, List.set_cons_succ])); (refine wpAnyT_take (i := 23) (v := _) rfl (by kernel_rfl) (by kernel_rfl) (by kernel_rfl) (by kernel_rfl) (by exact fun _ _ _ h => h) (Or.inr ⟨by kernel_rfl, rfl⟩) hS1 ?_; (try simp only [List.getElem_toArray, List.getElem_cons_zero, List.getElem_cons_succ, Act.put, List.setIfInBounds_toArray, List.set_cons_zero, List.set_cons_succ])); (refine wpAnyT_take (i := 24) (v := _) rfl (by kernel_rfl) (by kernel_rfl) (by kernel_rfl) (by kernel_rfl) (by exact fun _ _ _ h => h) (Or.inr ⟨by kernel_rfl, rfl⟩) hS1 ?_; (try simp only [List.getElem_toArray, List.getElem_cons_zero, List.getElem_cons_succ, Act.put, List.setIfInBounds_toArray, List.set_cons_zero, List.set_cons_succ])); (refine wpAnyT_take (i := 25) (v := _) rfl (by kernel_rfl) (by kernel_rfl) (by kernel_rfl) (by kernel_rfl) (by exact fun _ _ _ h => h) (Or.inr ⟨by kernel_rfl, rfl⟩) hS1 ?_; (try simp only [List.getElem_toArray, List.getElem_cons_zero, List.getElem_cons_succ, Act.put, List.setIfInBounds_toArray, List.set_cons_zero, List.set_cons_succ])); (refine wpAnyT_take (i := 26) (v := _) rfl (by kernel_rfl) (by kernel_rfl) (by kernel_rfl) (by kernel_rfl) (by exact fun _ _ _ h => h) (Or.inr ⟨by kernel_rfl, rfl⟩) hS1 ?_; (try simp only [List.getElem_toArray, List.getElem_cons_zero, List.getElem_cons_succ, Act.put, List.setIfInBounds_toArray, List.set_cons_zero, List.set_cons_succ])); (refine wpAnyT_take (i := 27) (v := _) rfl (by kernel_rfl) (by kernel_rfl) (by kernel_rfl) (by kernel_rfl) (by exact fun _ _ _ h => h) (Or.inr ⟨by kernel_rfl, rfl⟩) hS1 ?_; (try simp only [List.getElem_toArray, List.getElem_cons_zero, List.getElem_cons_succ, Act.put, List.setIfInBounds_toArray, List.set_cons_zero, List.set_cons_succ])))
                  ((refine wpAnyT_take (i := 28) (v := ?_) rfl (by kernel_rfl) (by kernel_rfl) (by kernel_rfl) (by kernel_rfl) (by exact fun _ _ _ h => h) (Or.inl ⟨by kernel_rfl, ?_⟩) hS1 ?_; rotate_left 1; focus (intro w hSw; unfold KfS at hSw; (try dsimp only at hSw); go_simp; try with_reducible rfl); (try simp only [List.getElem_toArray, List.getElem_cons_zero, List.getElem_cons_succ, Act.put, List.setIfInBounds_toArray, List.set_cons_zero, List.set_cons_succ])); (refine wpAnyT_take (i := 29) (v := ?_) rfl (by kernel_rfl) (by kernel_rfl) (by kernel_rfl) (by kernel_rfl) (by exact fun _ _ _ h => h) (Or.inl ⟨by kernel_rfl, ?_⟩) hS1 ?_; rotate_left 1; focus (intro w hSw; unfold KfS at hSw; (try dsimp only at hSw); go_simp; try with_reducible rfl); (try simp only [List.getElem_toArray, List.getElem_cons_zero, List.getElem_cons_succ, Act.put, List.setIfInBounds_toArray, List.set_cons_zero, List.set_cons_succ])); (refine wpAnyT_take (i := 30) (v := ?_) rfl (by kernel_rfl) (by kernel_rfl) (by kernel_rfl) (by kernel_rfl) (by exact fun _ _ _ h => h) (Or.inl ⟨by kernel_rfl, ?_⟩) hS1 ?_; rotate_left 1; focus (intro w hSw; unfold KfS at hSw; (try dsimp only at hSw); go_simp; try with_reducible rfl); (try simp only [List.getElem_toArray, List.getElem_cons_zero, List.getElem_cons_succ, Act.put, List.setIfInBounds_toArray, List.set_cons_zero, List.set_cons_succ])); (refine wpAnyT_take (i := 31) (v := ?_) rfl (by kernel_rfl) (by kernel_rfl) (by kernel_rfl) (by kernel_rfl) (by exact fun _ _ _ h => h) (Or.inl ⟨by kernel_rfl, ?_⟩) hS1 ?_; rotate_left 1; focus (intro w hSw; unfold KfS at hSw; (try dsimp only at hSw); go_simp; try with_reducible rfl); (try simp only [List.getElem_toArray, List.getElem_cons_zero, List.getElem_cons_succ, Act.put, List.setIfInBounds_toArray, List.set_cons_zero, List.set_cons_succ])); (refine wpAnyT_take (i := 32) (v := ?_) rfl (by kernel_rfl) (by kernel_rfl) (by kernel_rfl) (by kernel_rfl) (by exact fun _ _ _ h => h) (Or.inl ⟨by kernel_rfl, ?_⟩) hS1 ?_; rotate_left 1; focus (intro w hSw; unfold KfS at hSw; (try dsimp only at hSw); go_simp; try with_reducible rfl); (try simp only [List.getElem_toArray, List.getElem_cons_zero, List.getElem_cons_succ, Act.put, List.setIfInBounds_toArray, List.set_cons_zero, List.set_cons_succ])); (refine wpAnyT_take (i := 33) (v := ?_) rfl (by kernel_rfl) (by kernel_rfl) (by kernel_rfl) (by kernel_rfl) (by exact fun _ _ _ h => h) (Or.inl ⟨by kernel_rfl, ?_⟩) hS1 ?_; rotate_left 1; focus (intro w hSw; unfold KfS at hSw; (try dsimp only at hSw); go_simp; try with_reducible rfl); (try simp only [List.getElem_toArray, List.getElem_cons_zero, List.getElem_cons_succ, Act.put, List.setIfInBounds_toArray, List.set_cons_zero, List.set_cons_succ])); (refine wpAnyT_take (i := 34) (v := ?_) rfl (by kernel_rfl) (by kernel_rfl) (by kernel_rfl) (by kernel_rfl) (by exact fun _ _ _ h => h) (Or.inl ⟨by kernel_rfl, ?_⟩) hS1 ?_; rotate_left 1; focus (intro w hSw; unfold KfS at hSw; (try dsimp only at hSw); go_simp; try with_reducible rfl); (try simp only [List.getElem_toArray, List.getElem_cons_zero, List.getElem_cons_succ, Act.put, List.setIfInBounds_toArray, List.set_cons_zero, List.set_cons_succ])); (refine wpAnyT_take (i := 35) (v := ?_) rfl (by kernel_rfl) (by kernel_rfl) (by kernel_rfl) (by kernel_rfl) (by exact fun _ _ _ h => h) (Or.inl ⟨by kernel_rfl, ?_⟩) hS1 ?_; rotate_left 1; focus (intro w hSw; unfold KfS at hSw; (try dsimp only at hSw); go_simp; try with_reducible rfl); (try simp only [List.getElem_toArray, List.getElem_cons_zero, List.getElem_cons_succ, Act.put, List.setIfInBounds_toArray, List.set_cons_zero, List.set_cons_succ])); (refine wpAnyT_take (i := 36) (v := ?_) rfl (by kernel_rfl) (by kernel_rfl) (by kernel_rfl) (by kernel_rfl) (by exact fun _ _ _ h => h) (Or.inl ⟨by kernel_rfl, ?_⟩) hS1 ?_; rotate_left 1; focus (intro w hSw; unfold KfS at hSw; (try dsimp only at hSw); go_simp; try with_reducible rfl); (try simp only [List.getElem_toArray, List.getElem_cons_zero, List.getElem_cons_succ, Act.put, List.setIfInBounds_toArray, List.set_cons_zero, List.set_cons_succ])); (refine wpAnyT_take (i := 37) (v := ?_) rfl (by kernel_rfl) (by kernel_rfl) (by kernel_rfl) (by kernel_rfl) (by exact fun _ _ _ h => h) (Or.inl ⟨by kernel_rfl, ?_⟩) hS1 ?_; rotate_left 1; focus (intro w hSw; unfold KfS at hSw; (try dsimp only at hSw); go_simp; try with_reducible rfl); (try simp only [List.getElem_toArray, List.getElem_cons_zero, List.getElem_cons_succ, Act.put, List.setIfInBounds_toArray, List.set_cons_zero, List.set_cons_succ])); (refine wpAnyT_take (i := 38) (v := ?_) rfl (by kernel_rfl) (by kernel_rfl) (by kernel_rfl) (by kernel_rfl) (by exact fun _ _ _ h => h) (Or.inl ⟨by kernel_rfl, ?_⟩) hS1 ?_; rotate_left 1; focus (intro w hSw; unfold KfS at hSw; (try dsimp only at hSw); go_simp; try with_reducible rfl); (try simp only [List.getElem_toArray, List.getElem_cons_zero, List.getElem_cons_succ, Act.put, List.setIfInBounds_toArray, List.set_cons_zero, List.set_cons_succ])); (refine wpAnyT_take (i := 39) (v := ?_) rfl (by kernel_rfl) (by kernel_rfl) (by kernel_rfl) (by kernel_rfl) (by exact fun _ _ _ h => h) (Or.inl ⟨by kernel_rfl, ?_⟩) hS1 ?_; rotate_left 1; focus (intro w hSw; unfold KfS at hSw; (try dsimp only at hSw); go_simp; try with_reducible rfl); (try simp only [List.getElem_toArray, List.getElem_cons_zero, List.getElem_cons_succ, Act.put, List.setIfInBounds_toArray, List.set_cons_zero, List.set_cons_succ])); (refine wpAnyT_take (i := 40) (v := ?_) rfl (by kernel_rfl) (by kernel_rfl) (by kernel_rfl) (by kernel_rfl) (by exact fun _ _ _ h => h) (Or.inl ⟨by kernel_rfl, ?_⟩) hS1 ?_; rotate_left 1; focus (intro w hSw; unfold KfS at hSw; (try dsimp only at hSw); go_simp; try with_reducible rfl); (try simp only [List.getElem_toArray, List.getElem_cons_zero, List.getElem_cons_succ, Act.put, List.setIfInBounds_toArray, List.set_cons_zero, List.set_cons_succ])); (refine wpAnyT_take (i := 41) (v := ?_) rfl (by kernel_rfl) (by kernel_rfl) (by kernel_rfl) (by kernel_rfl) (by exact fun _ _ _ h => h) (Or.inl ⟨by kernel_rfl, ?_⟩) hS1 ?_; rotate_left 1; focus (intro w hSw; unfold KfS at hSw; (try dsimp only at hSw); go_simp; try with_reducible rfl); (try simp only [List.getElem_toArray, List.getElem_cons_zero, List.getElem_cons_succ, Act.put, List.setIfInBounds_toArray, List.set_cons_zero, List.set_cons_succ])); (refine wpAnyT_take (i := 42) (v := ?_) rfl (by kernel_rfl) (by kernel_rfl) (by kernel_rfl) (by kernel_rfl) (by exact fun _ _ _ h => h) (Or.inl ⟨by kernel_rfl, ?_⟩) hS1 ?_; rotate_left 1; focus (intro w hSw; unfold KfS at hSw; (try dsimp only at hSw); go_simp; try with_reducible rfl); (try simp only [List.getElem_toArray, List.getElem_cons_zero, List.getElem_cons_succ, Act.put, List.setIfInBounds_toArray, List.set_cons_zero, List.set_cons_succ])); (refine wpAnyT_take (i := 43) (v := ?_) rfl (by kernel_rfl) (by kernel_rfl) (by kernel_rfl) (by kernel_rfl) (by exact fun _ _ _ h => h) (Or.inl ⟨by kernel_rfl, ?_⟩) hS1 ?_; rotate_left 1; focus (intro w hSw; unfold KfS at hSw; (try dsimp only at hSw); go_simp; try with_reducible rfl); (try simp only [List.getElem_toArray, List.getElem_cons_zero, List.getElem_cons_succ, Act.put, List.setIfInBounds_toArray, List.set_cons_zero, List.set_cons_succ])); (refine wpAnyT_take (i := 44) (v := ?_) rfl (by kernel_rfl) (by kernel_rfl) (by kernel_rfl) (by kernel_rfl) (by exact fun _ _ _ h => h) (Or.inl ⟨by kernel_rfl, ?_⟩) hS1 ?_; rotate_left 1; focus (intro w hSw; unfold KfS at hSw; (try dsimp only at hSw); go_simp; try with_reducible rfl); (try simp only [List.getElem_toArray, List.getElem_cons_zero, List.getElem_cons_succ, Act.put, List.setIfInBounds_toArray, List.set_cons_zero, List.set_cons_succ])); (refine wpAnyT_take (i := 45) (v := ?_) rfl (by kernel_rfl) (by kernel_rfl) (by kernel_rfl) (by kernel_rfl) (by exact fun _ _ _ h => h) (Or.inl ⟨by kernel_rfl, ?_⟩) hS1 ?_; rotate_left 1; focus (intro w hSw; unfold KfS at hSw; (try dsimp only at hSw); go_simp; try with_reducible rfl); (try simp only [List.getElem_toArray, List.getElem_cons_zero, List.getElem_cons_succ, Act.put, List.setIfInBounds_toArray, List.set_cons_zero, List.set_cons_succ])); (refine wpAnyT_take (i := 46) (v := ?_) rfl (by kernel_rfl) (by kernel_rfl) (by kernel_rfl) (by kernel_rfl) (by exact fun _ _ _ h => h) (Or.inl ⟨by kernel_rfl, ?_⟩) hS1 ?_; rotate_left 1; focus (intro w hSw; unfold KfS at hSw; (try dsimp only at hSw); go_simp; try with_reducible rfl); (try simp only [List.getElem_toArray, List.getElem_cons_zero, List.getElem_cons_succ, Act.put, List.setIfInBounds_toArray, List.set_cons_zero, List.set_cons_succ])); (refine wpAnyT_take (i := 47) (v := ?_) rfl (by kernel_rfl) (by kernel_rfl) (by kernel_rfl) (by kernel_rfl) (by exact fun _ _ _ h => h) (Or.inl ⟨by kernel_rfl, ?_⟩) hS1 ?_; rotate_left 1; focus (intro w hSw; unfold KfS at hSw; (try dsimp only at hSw); go_simp; try with_reducible rfl); (try simp only [List.getElem_toArray, List.getElem_cons_zero, List.getElem_cons_succ, Act.put, List.setIfInBounds_toArray, List.set_cons_zero, List.set_cons_succ])); (refine wpAnyT_take (i := 48) (v := ?_) rfl (by kernel_rfl) (by kernel_rfl) (by kernel_rfl) (by kernel_rfl) (by exact fun _ _ _ h => h) (Or.inl ⟨by kernel_rfl, ?_⟩) hS1 ?_; rotate_left 1; focus (intro w hSw; unfold KfS at hSw; (try dsimp only at hSw); go_simp; try with_reducible rfl); (try simp only [List.getElem_toArray, List.getElem_cons_zero, List.getElem_cons_succ, Act.put, List.setIfInBounds_toArray, List.set_cons_zero, List.set_cons_succ])); (refine wpAnyT_take (i := 49) (v := ?_) rfl (by kernel_rfl) (by kernel_rfl) (by kernel_rfl) (by kernel_rfl) (by exact fun _ _ _ h => h) (Or.inl ⟨by kernel_rfl, ?_⟩) hS1 ?_; rotate_left 1; focus (intro w hSw; unfold KfS at hSw; (try dsimp only at hSw); go_simp; try with_reducible rfl); (try simp only [List.getElem_toArray, List.getElem_cons_zero, List.getElem_cons_succ, Act.put, List.setIfInBounds_toArray, List.set_cons_zero, List.set_cons_succ])))
                  refine wpAnyT_done (by kernel_rfl) ?_ _
                  go_wp2_with fail
                  go_ret
                  exact ⟨by kernel_rfl, DW.out.step E1.out⟩
theorem kept_card (V : PVal) (hm : V.mass ≤ 1073741824) {w : World} {cs : List Value} {bv : Value} {rs : List Int} (hT : Tabs w) (hV : Rd w (Now w) V cs) (hb : NumsAt .u8 w rs bv) (hfm : bv = .slice none 0 0 ∨ ∃ ad n c, bv = .slice (some ad) n c) (hl : rs.length ≤ 35184372088832) :
    Calls Tryd.prog 5 #[.agg cs.toArray, bv] w fun e w' => e = .returned (.bool true) ∧ Below w.heap.size w w' := by
  obtain ⟨l, h1, h2⟩ := nums_bytes hb
  exact kept_calls V hm hT hV h1 hfm (by omega)
section
variable {H : Type} {enc : TypeId × Value → H} {w : World} {base : Nat} {spare held : _}
open Go.ChangeShapes Go.WideShapes in
set_option maxRecDepth 100000 in
/-- A slice of bytes that came in: nil, or it has an address. -/
theorem form_bytes {v : Value} {d : DataW H} {p : List MemPlace} {r : Reach} {b0 : Nat} (hv : Value.okWide Tryd.prog w r b0 26 v) (h : DataW.Trod enc Tryd.prog w base spare held 26 v d p) : v = .slice none 0 0 ∨ ∃ ad n c, v = .slice (some ad) n c := by
  obtain ⟨a, n, c, rfl⟩ : ∃ a n c, v = .slice a n c := okWide_slice Tryd.underlying26 hv
  obtain ⟨fuel, hf⟩ := h
  rcases open_ints Tryd.underlying26 Tryd.underlying5 (by kernel_rfl) hf with ⟨h1, _⟩ | ⟨a', len, cap, zs, h1, _⟩
  · exact .inl (by simpa [Value.cells] using h1)
  · exact .inr ⟨a', len, cap, by simpa [Value.cells] using h1⟩
end
end Go.Proofs.YtihcegakghmdfaaDoor
