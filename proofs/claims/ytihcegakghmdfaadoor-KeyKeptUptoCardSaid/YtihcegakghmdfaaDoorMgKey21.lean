/-
  Walk: the law KeyKept.
-/
import Derived.Test.YtihcegakghmdfaaDoorMgKey13
import Derived.Test.YtihcegakghmdfaaDoorMgKr5f
import Derived.Test.YtihcegakghmdfaaDoorMgLaid
import Derived.Test.YtihcegakghmdfaaDoorMgVal19
import Derived.Test.YtihcegakghmdfaaDoorMgVal10
import Derived.Test.YtihcegakghmdfaaDoorMgApp
namespace Go.Proofs.YtihcegakghmdfaaDoor
open Go.RowKit Go.Proofs

/-- So many cells of a block are there, and may be written. -/
def There (b m : Nat) (w : World) : Prop := ∃ arr t fz, w.heap[b]? = some (.cells arr t fz) ∧ m ≤ arr.size ∧ ∀ o, w.frozen? ⟨b, o, none⟩ = false
theorem There.cell {b m o : Nat} {w : World} (h : There b m w) (ho : o < m) : ∃ v, w.cell? ⟨b, o, none⟩ = some v := by
  obtain ⟨arr, t, fz, h1, h2, _⟩ := h
  refine ⟨arr[o]'(by omega), ?_⟩
  unfold World.cell?
  rw [h1]
  simp [Array.getElem?_eq_getElem (show o < arr.size by omega)]
theorem There.free {b m : Nat} {w : World} (h : There b m w) (o : Nat) : w.frozen? ⟨b, o, none⟩ = false := by
  obtain ⟨_, _, _, _, _, h3⟩ := h
  exact h3 o
theorem There.keep {b m : Nat} {w w' : World} (h : There b m w) (hb : w'.heap[b]? = w.heap[b]?) : There b m w' := by
  obtain ⟨arr, t, fz, h1, h2, h3⟩ := h
  refine ⟨arr, t, fz, hb.trans h1, h2, fun o => ?_⟩
  rw [← h3 o]
  unfold World.frozen?
  rw [hb]
theorem There.set {b m : Nat} {w : World} (h : There b m w) (c o : Nat) (u : Value) : There b m (w.setCell ⟨c, o, none⟩ u) := by
  by_cases hc : b = c
  · subst hc
    obtain ⟨arr, t, fz, h1, h2, h3⟩ := h
    have hlt := lt_of_block h1
    have h' : w.heap[b] = .cells arr t fz := by simpa [Array.getElem?_eq_getElem hlt] using h1
    have hrow : (w.setCell ⟨b, o, none⟩ u).heap[b]? = some (.cells (arr.setIfInBounds o u) t fz) := by
      show (w.heap.modify b _)[b]? = _
      rw [Array.getElem?_eq_getElem (by simpa using hlt), Array.getElem_modify_self, h']
      rfl
    refine ⟨_, t, fz, hrow, by simpa using h2, fun x => ?_⟩
    have := h3 x
    unfold World.frozen? at this ⊢
    rw [h1] at this
    rw [hrow]
    exact this
  · exact h.keep (Below.heap_setCell _ _ _ _ hc)
theorem there_of {b k : Nat} {w : World} {v : Value} (h : w.cell? ⟨b, k, none⟩ = some v) (hf : ∀ o, w.frozen? ⟨b, o, none⟩ = false) : There b (k + 1) w := by
  unfold World.cell? at h
  split at h
  · rename_i c t fz h1
    refine ⟨c, t, fz, h1, ?_, hf⟩
    simp only [Option.isSome_none, Bool.false_eq_true, if_false] at h
    exact (Array.getElem?_eq_some_iff.1 h).1
  · cases h
/-- The rows of a slice of so many elements. -/
def Rows0 (B C sz n : Nat) (a : Option Addr) (w : World) : Prop := n = 0 ∨ ∃ b off, a = some ⟨b, off, none⟩ ∧ B ≤ b ∧ b < C ∧ There b (off + n * sz) w
theorem rows_list {B : Nat} {w : World} {S : Nat → Prop} {l : List PVal} {a : Option Addr} {c : Nat} (h : RdL w S l (.slice a l.length c)) (ht : ∀ ad, a = some ad → B ≤ ad.block ∧ ad.block < w.heap.size ∧ ∀ off, w.frozen? ⟨ad.block, off, none⟩ = false) : Rows0 B w.heap.size 5 l.length a w := by
  by_cases h0 : l.length = 0
  · exact .inl h0
  · obtain ⟨x, hx⟩ : ∃ x, l[l.length - 1]? = some x := ⟨_, List.getElem?_eq_getElem (by omega)⟩
    obtain ⟨b, off, cs, rfl, _, hc, hr⟩ := h.at_ hx
    obtain ⟨t1, t2, t3⟩ := ht _ rfl
    have hl := hr.len
    have h4 := hc 4 cs[4] (List.getElem?_eq_getElem (by omega))
    have := there_of h4 t3
    exact .inr ⟨b, off, rfl, t1, t2, by rw [show off + l.length * 5 = off + (l.length - 1) * 5 + 4 + 1 by omega]; exact this⟩
theorem rows_fields {B : Nat} {w : World} {S : Nat → Prop} {fn : List ByteArray} {fv : List PVal} {a : Option Addr} {c : Nat} (h : RdF w S fn fv (.slice a fv.length c)) (ht : ∀ ad, a = some ad → B ≤ ad.block ∧ ad.block < w.heap.size ∧ ∀ off, w.frozen? ⟨ad.block, off, none⟩ = false) : Rows0 B w.heap.size 6 fv.length a w := by
  by_cases h0 : fv.length = 0
  · exact .inl h0
  · have hlen := h.1
    obtain ⟨x, hx⟩ : ∃ x, fv[fv.length - 1]? = some x := ⟨_, List.getElem?_eq_getElem (by omega)⟩
    obtain ⟨nm, hn⟩ : ∃ nm, fn[fv.length - 1]? = some nm := ⟨_, List.getElem?_eq_getElem (by omega)⟩
    obtain ⟨b, off, cs, rfl, _, hc, hr, _⟩ := h.at_ hn hx
    obtain ⟨t1, t2, t3⟩ := ht _ rfl
    have hl := hr.len
    have h4 := hc 5 cs[4] (by simp [List.getElem?_eq_getElem (show 4 < cs.length by omega)])
    have := there_of h4 t3
    exact .inr ⟨b, off, rfl, t1, t2, by rw [show off + fv.length * 6 = off + (fv.length - 1) * 6 + 5 + 1 by omega]; exact this⟩
theorem Rows0.later {B C sz n : Nat} {a : Option Addr} {w w' : World} (h : Rows0 B C sz n a w) (hC : C ≤ w.heap.size) (hb : Below w.heap.size w w') : Rows0 B C sz n a w' := by
  rcases h with h | ⟨b, off, h1, h2, h3, h4⟩
  · exact .inl h
  · exact .inr ⟨b, off, h1, h2, h3, h4.keep (hb.block b (Nat.lt_of_lt_of_le h3 hC))⟩
theorem Rows0.set {B C sz n : Nat} {a : Option Addr} {w : World} (h : Rows0 B C sz n a w) (c o : Nat) (u : Value) : Rows0 B C sz n a (w.setCell ⟨c, o, none⟩ u) := by
  rcases h with h | ⟨b, off, h1, h2, h3, h4⟩
  · exact .inl h
  · exact .inr ⟨b, off, h1, h2, h3, h4.set c o u⟩


/-- What the region in the law's loop reads. -/
def KqS (g : Nat) (v : Value) (w' : World) : Prop := w'.cell? ⟨g, 3, none⟩ = some v
theorem kqS_mk {w w' : World} {g : Nat} {v0 v1 v2 v3 v4 : Value} {u : TypeId} (hg : w.heap[g]? = some (.cells #[v0, v1, v2, v3, v4] u (0, 0))) (h2 : w'.heap[g]? = w.heap[g]?) : KqS g v3 w' := box_at (h2.trans hg) rfl
theorem own_form1 {w : World} {B e n : Nat} {v : Value} {l : List Value} (h : w.ownsRow B e 1 v n l) : ∃ a c, v = .slice a n c := by
  rcases h.2 with ⟨h, h0⟩ | ⟨g, cap, cur, hv, _⟩
  · exact ⟨none, 0, by rw [h, h0]⟩
  · exact ⟨_, cap, hv⟩
theorem own_lim {w : World} {B e n : Nat} {v : Value} {l : List Value} (h : w.ownsRow B e 1 v n l) : n ≤ 9223372036854775807 := by
  rcases h.2 with ⟨_, h0⟩ | ⟨g, cap, cur, hv, _, _, hc, hm, _⟩
  · omega
  · unfold maxLen at hm; omega

/-- What the law's last region reads. -/
def KfS (A B o : Nat) (a0 a1 a2 a3 a4 b0 b1 b2 b3 b4 y z p r c b : Value) (t u l : ByteArray) (q m : Nat) (x : World) : Prop :=
  x.cell? ⟨A, 0, none⟩ = some a0 ∧ x.cell? ⟨A, 1, none⟩ = some a1 ∧ x.cell? ⟨A, 2, none⟩ = some a2 ∧ x.cell? ⟨A, 3, none⟩ = some a3 ∧ x.cell? ⟨A, 4, none⟩ = some a4 ∧ x.cell? ⟨B, o, none⟩ = some b0 ∧ x.cell? ⟨B, o + 1, none⟩ = some b1 ∧ x.cell? ⟨B, o + 2, none⟩ = some b2 ∧ x.cell? ⟨B, o + 3, none⟩ = some b3 ∧ x.cell? ⟨B, o + 4, none⟩ = some b4 ∧ (convert 26 9 y).run Tryd.prog x = .ok (.string t) x ∧ (convert 26 9 z).run Tryd.prog x = .ok (.string t) x ∧ (convert 26 9 p).run Tryd.prog x = .ok (.string u) x ∧ (convert 26 9 r).run Tryd.prog x = .ok (.string u) x ∧ (convert 26 9 c).run Tryd.prog x = .ok (.string l) x ∧ (convert 26 9 b).run Tryd.prog x = .ok (.string l) x ∧ x.cell? ⟨q, m, none⟩ = some (.int .u8 201)
def KgS (A : Nat) (a0 a1 a2 a3 a4 y z p r c b : Value) (t u l : ByteArray) (q m : Nat) (x : World) : Prop :=
  x.cell? ⟨A, 0, none⟩ = some a0 ∧ x.cell? ⟨A, 1, none⟩ = some a1 ∧ x.cell? ⟨A, 2, none⟩ = some a2 ∧ x.cell? ⟨A, 3, none⟩ = some a3 ∧ x.cell? ⟨A, 4, none⟩ = some a4 ∧ (convert 26 9 y).run Tryd.prog x = .ok (.string t) x ∧ (convert 26 9 z).run Tryd.prog x = .ok (.string t) x ∧ (convert 26 9 p).run Tryd.prog x = .ok (.string u) x ∧ (convert 26 9 r).run Tryd.prog x = .ok (.string u) x ∧ (convert 26 9 c).run Tryd.prog x = .ok (.string l) x ∧ (convert 26 9 b).run Tryd.prog x = .ok (.string l) x ∧ x.cell? ⟨q, m, none⟩ = some (.int .u8 201)
/-- The copied bytes, and the byte behind them, from the first world on. -/
structure Kc (w : World) (l : List UInt8) (qg cap : Nat) (w' : World) : Prop where
  D : Below w.heap.size w w'
  hc : BytesAt w' (Now w') l (.slice (some ⟨qg, 0, none⟩) l.length cap)
  h201 : w'.cell? ⟨qg, l.length, none⟩ = some (.int .u8 201)
  hq : qg < w'.heap.size
theorem Kc.step {w w' w'' : World} {l : List UInt8} {qg cap : Nat} (h : Kc w l qg cap w') (hb : Below w'.heap.size w' w'') : Kc w l qg cap w'' :=
  ⟨h.D.step hb, h.hc.later hb, (hb.cell (p := ⟨qg, l.length, none⟩) h.hq).trans h.h201, Nat.lt_of_lt_of_le h.hq hb.size⟩

set_option maxRecDepth 100000 in
set_option maxHeartbeats 8000000 in
theorem kept5_calls (xs : List PVal) (hm : massL xs ≤ 1073741824) {w : World} {la : Option Addr} {lc : Nat} {bv : Value} {l : List UInt8} (hT : Tabs w) (hA : RdL w (Now w) xs (.slice la xs.length lc)) (hb : BytesAt w (Now w) l bv) (hfm : bv = .slice none 0 0 ∨ ∃ ad n c, bv = .slice (some ad) n c) (hl : l.length ≤ 33554432) :
    Calls Tryd.prog 10 #[.slice la xs.length lc, bv] w fun e w' => e = .returned (.bool true) ∧ Below w.heap.size w w' := by
  have hT := hid (fun w' hb => Tabs.stays w w' hT hb)
  have haw := hid awake5_calls
  have hlx : xs.length ≤ 1759218604441 := by
    obtain ⟨_, _, _, hv, _, h, _⟩ := hA
    exact h.2
  have hA0 := hid hA
  have hb0 := hid hb
  have hva := hid (fun la c' w h => vast_calls xs la c' w h hlx)
  have hj := hid (fun (w' : World) (h : Below w.heap.size w w') => join_calls xs (fun x hx => by have := mass_mem hx; omega) (by have := keysP_le xs; omega) (hT.out w' h) (hA0.out.later h))
  have hrj := hid (fun (w' : World) (h : Below w.heap.size w w') => rjoin5_calls xs hm (hA0.out.later h))
  have haf := hid (fun (w' : World) (v : Value) (h : BytesAt w' (Now w') l v) => after_calls h (by omega))
  have hra := hid (fun (w' : World) (h : Below w.heap.size w w') => rafter5_calls (hb0.out.later h) (by omega))
  have hbk := hid (fun (w' : World) (v : Value) (h : BytesAt w' (Now w') l v) (hT : Tabs w') => back_tells h hT (by omega))
  have hrs := hid (fun (w' : World) (h : Below w.heap.size w w') => rsplit5_calls (hb0.out.later h) hl 1 (by omega))
  have hsm := hid (fun (V : PVal) w cs cs' h h' => same_calls V V true (by simp) w cs cs' h h')
  have hnu := hid (fun w => null_calls w)
  rw [← split_same l 1 (by omega)] at hrs
  have hln := hid (fun xs h => splitP_len (l := l) (n := 1) (xs := xs) h)
  obtain ⟨R, hR⟩ : ∃ R, R = splitP l 1 := ⟨_, rfl⟩
  rw [← hR] at hrs hbk hln
  clear hR
  obtain ⟨V3, hV3⟩ : ∃ V3, V3 = theOne R := ⟨_, rfl⟩
  obtain ⟨e3, he3⟩ : ∃ e3, e3 = err4 R := ⟨_, rfl⟩
  rw [← hV3, ← he3] at hbk
  replace hV3 := hid hV3
  replace he3 := hid he3
  unfold Joined OwnB at hj
  unfold OwnB at haf
  have hJl : (if badI xs = 0 then keysP xs else []).length ≤ 2147483648 := by
    split
    · have := keysP_le xs; omega
    · simp
  obtain ⟨J, hJ⟩ : ∃ J, J = (if badI xs = 0 then keysP xs else []) := ⟨_, rfl⟩
  obtain ⟨G, hG⟩ : ∃ G, G = badI xs := ⟨_, rfl⟩
  obtain ⟨A, hA9⟩ : ∃ A, A = (afterP l).getD [] := ⟨_, rfl⟩
  obtain ⟨S, hS9⟩ : ∃ S, S = (afterP l).isSome := ⟨_, rfl⟩
  rw [← hJ, ← hG] at hj hrj
  rw [← hJ] at hJl
  rw [← hA9, ← hS9] at haf hra
  replace hJl := hid hJl
  clear hJ hG hA9 hS9 hA hm hlx
  obtain ⟨xk, xn, xt, xl, xfn, xfv⟩ := V3
  obtain ⟨ba, bc, rfl, hc1, hc2, _⟩ := hb
  obtain ⟨i0, hi, hz0, hz1, hz2⟩ := info_parts info_u8
  have hn0 : Hid (ba = none → l.length = 0 ∧ bc = 0) := fun h => by
    subst h
    rcases hfm with hnone | ⟨ad, n', c', hsome⟩
    · injection hnone with e1 e2 e3
      exact ⟨e2, e3⟩
    · cases hsome
  clear hfm
  generalize vast xs = T at *
  go_enter Tryd.func10, Tryd.ntmps10
  go_wp2_with fail
  refine (haw.out _ (hT.out _ (Below.refl _ _))).mono ?_
  rintro e w1 ⟨rfl, h1⟩
  have D := hid h1
  clear h1
  go_wp2_with fail
  refine (hva.out _ _ _ (hA0.out.later D.out)).mono ?_
  rintro e w2 ⟨rfl, h2⟩
  replace D := hid (D.out.step h2)
  clear h2
  cases T with
  | true =>
    go_wp2_with fail
    go_ret
    exact ⟨rfl, D.out⟩
  | false =>
  have hoE := hid (World.ownsRow_lit (base := w2.heap.size) (e := 5) (size := 1) w2 #[] 0 (Nat.le_refl _) (by decide) rfl)
  have hnews : Hid (∀ ad, ba = some ad → ∀ j u, (bcells l)[j]? = some u → (w2.alloc (.cells #[] 5)).cell? (ad.add j) = some u) := fun ad had j u hu => by
    obtain ⟨a', c', e, _, _, h9⟩ := hb0.out.later (D.out.step (below_new w2 (.cells #[] 5)))
    injection e with e1
    rcases h9 with h0 | ⟨b, off, h4, h5, h6⟩
    · subst h0; simp [bcells] at hu
    · rw [← e1, had] at h4
      injection h4 with h4
      subst h4
      simp only [bcells, List.getElem?_map, Option.map_eq_some_iff] at hu
      obtain ⟨x, hx, rfl⟩ := hu
      have := h6 j x hx
      rwa [addr_at]
  go_wp2_with (first
    | (at_builtin; (refine wpList_append_own_any _ rfl (.tmp 31) (.tmp 32) 26 rfl w2.heap.size 5 i0 (.int .u8 0) 1 1 Tryd.underlying26 hi hz0 hz1 hz2 rfl (by decide) _ 0 [] rfl hoE.out ba l.length bc (bcells l) rfl (by rw [bcells_length, Nat.mul_one]) hn0.out hnews.out (bcells_one l) (by unfold maxLen; omega) (by omega) (below_new w2 _).size ?_); intro v3 w3 hown3 hg3; replace hown3 := hid hown3; replace hg3 := hid hg3)
    | (at_builtin; (refine wpList_append_own_any _ rfl (.tmp 33) (.tmp 34) 26 rfl w2.heap.size 5 i0 (.int .u8 0) 1 1 Tryd.underlying26 hi hz0 hz1 hz2 rfl (by decide) _ (0 + l.length) ([] ++ bcells l) rfl (hown3.out.alloc _) (some ⟨w3.heap.size, 0, none⟩) 1 1 [.int .u8 201] rfl rfl (fun h => by cases h) (fun ad had => by obtain rfl := Option.some.inj had; exact cells_new w3 _ rfl [.int .u8 201] _) (by intro u hu; simp at hu; subst hu; rfl) (by unfold maxLen; omega) (by omega) (Nat.le_trans (Nat.le_trans (below_new w2 _).size hg3.out.size) (below_new w3 _).size) ?_); intro v4 w4 hown4 hg4; replace hown4 := hid hown4; replace hg4 := hid hg4
       obtain ⟨qg, cap3, rfl⟩ : ∃ qg cap3, v4 = .slice (some ⟨qg, 0, none⟩) (l.length + 1) cap3 := by
         rcases hown4.out.2 with ⟨_, h0⟩ | ⟨g, cap, cur, hv, _⟩
         · omega
         · exact ⟨g, cap, by rw [hv, Nat.zero_add]⟩
       have hcap3 := (own_cap hown4.out).1))
  have N3 : Below w2.heap.size w2 w3 := (below_new w2 _).grown hg3.out (below_new w2 _).size (fun k hk => (hoE.out.lt k hk).1)
  have N4 : Below w2.heap.size w2 w4 := (N3.step (below_new w3 _)).grown hg4.out (N3.step (below_new w3 _)).size (fun k hk => (hown3.out.lt k hk).1)
  have hown : w4.ownsRow w2.heap.size 5 1 (.slice (some ⟨qg, 0, none⟩) (l.length + 1) cap3) (l.length + 1) (bcells (l ++ [201])) := by
    rw [bcells_append]
    have := hown4.out
    simp only [List.nil_append, Nat.zero_add] at this
    exact this
  have hc : BytesAt w4 (Now w4) l (.slice (some ⟨qg, 0, none⟩) l.length cap3) := by
    have h := own_bytes (m := l.length) hown (by simp) (by simp)
    rwa [List.take_left] at h
  have h201 : w4.cell? ⟨qg, l.length, none⟩ = some (.int .u8 201) := by
    rw [hown.cellAt l.length (by omega)]
    simp [bcells]
  have C := hid (Kc.mk (D.out.step N4) hc h201 (hown.lt qg rfl).2)
  clear N3 N4 hown hown3 hown4 hg3 hg4 hnews hoE D hc h201
  refine (hj.out _ C.out.D).mono ?_
  rintro e w5 ⟨v5, rfl, h5, ho5⟩
  obtain ⟨pa, pc, rfl⟩ := own_form1 ho5
  replace h5 := hid h5
  replace ho5 := hid ho5
  go_wp2_with fail
  go_loopg [8] J.length (fun g i wr => ∃ (j : Nat) (ys : List Value), g + j = J.length ∧ i = .int .i64 j ∧ wr.ownsRow w4.heap.size 5 1 (.slice pa J.length pc) J.length ys ∧ Below w4.heap.size w4 wr)
  case atStart => exact ⟨0, _, by omega, rfl, ho5.out, h5.out⟩
  case round =>
  clear h5 ho5
  obtain ⟨j3, ys, hj3, rfl, hoy, hby⟩ := hrel
  by_cases hlt : j3 < J.length
  · obtain ⟨gx, capx, hvx⟩ : ∃ gx cap, Value.slice pa J.length pc = .slice (some ⟨gx, 0, none⟩) J.length cap := by
      rcases hoy.2 with ⟨_, h0⟩ | ⟨g, cap, cur, hv, _⟩
      · omega
      · exact ⟨g, cap, hv⟩
    injection hvx with e1 e2 e3
    subst e1 e3
    have hgx := (hoy.lt gx rfl).1
    obtain ⟨y, hy⟩ : ∃ y, ys[j3]? = some y := ⟨_, List.getElem?_eq_getElem (by rw [hoy.1]; omega)⟩
    have c0 := (hoy.cellAt j3 (by omega)).trans hy
    have f0 := hoy.frozenAt j3
    obtain ⟨hs1, hs2⟩ := hoy.stored j3 (.int .u8 99)
    have hby2 := hby.setCell (p := ⟨gx, j3, none⟩) hgx (.int .u8 99)
    replace hs1 := hid hs1
    replace hby2 := hid hby2
    clear hs2 hy hoy
    have ew : IntKind.i64.wrap ((j3 : Int) + 1) = (j3 : Int) + 1 := by
      have := hJl.out
      rw [IntWalk.i64_in _ (by omega)]
    go_wp2_with fail
    go_roundg (J.length - (j3 + 1))
    case measure => omega
    case rel => exact ⟨j3 + 1, ys.set j3 (.int .u8 99), by omega, by go_num, hs1.out, hby2.out⟩
  clear hj3
  have hJl2 := hJl.out
  replace hoy := hid hoy
  replace hby := hid hby
  go_wp2_with (at_builtin; (refine wpList_append_own_any _ rfl (.tmp 53) (.tmp 54) 26 rfl w4.heap.size 5 i0 (.int .u8 0) 1 1 Tryd.underlying26 hi hz0 hz1 hz2 rfl (by decide) _ J.length ys rfl (hoy.out.alloc _) (some ⟨wr.heap.size, 0, none⟩) 1 1 [.int .u8 98] rfl rfl (fun h => by cases h) (fun ad had => by obtain rfl := Option.some.inj had; exact cells_new wr _ rfl [.int .u8 98] _) (by intro u hu; simp at hu; subst hu; rfl) (by unfold maxLen; omega) (by omega) (Nat.le_trans hby.out.size (below_new wr _).size) ?_); intro v7 w7 hown7 hg7; replace hown7 := hid hown7; replace hg7 := hid hg7)
  have N7 : Below w4.heap.size w4 w7 := (hby.out.step (below_new wr _)).grown hg7.out (hby.out.step (below_new wr _)).size (fun k hk => (hoy.out.lt k hk).1)
  replace C := hid (C.out.step N7)
  clear N7 hown7 hg7 hoy hby hlt hJl2
  refine (hj.out _ C.out.D).mono ?_
  rintro e w8 ⟨v8, rfl, h8, ho8⟩
  have x8 := hid ((OwnB.bytes ⟨h8, ho8⟩).keep (fun b hb => hb.2) (fun _ _ => rfl) : BytesAt w8 (Now w8) J v8)
  replace C := hid (C.out.step h8)
  clear h8 ho8
  obtain ⟨a8, c8, rfl, _⟩ := id x8.out
  go_wp2_with fail
  refine (hrj.out _ C.out.D).mono ?_
  rintro e w9 ⟨v9, rfl, h9, x9⟩
  replace x9 := hid x9
  replace x8 := hid (x8.out.later h9)
  replace C := hid (C.out.step h9)
  clear h9
  obtain ⟨a9, c9, rfl, _⟩ := id x9.out
  go_wp2_with fail
  refine (haf.out _ _ C.out.hc).mono ?_
  rintro e w10 ⟨v10, rfl, h10, ho10⟩
  obtain ⟨ra, rc, rfl⟩ := own_form1 ho10
  have hAl := hid (own_lim ho10)
  replace h10 := hid h10
  replace ho10 := hid ho10
  go_wp2_with fail
  go_loopg [15] A.length (fun g i wr => ∃ (j : Nat) (ys : List Value), g + j = A.length ∧ i = .int .i64 j ∧ wr.ownsRow w9.heap.size 5 1 (.slice ra A.length rc) A.length ys ∧ Below w9.heap.size w9 wr)
  case atStart => exact ⟨0, _, by omega, rfl, ho10.out, h10.out⟩
  case round =>
  clear h10 ho10
  obtain ⟨j3, ys, hj3, rfl, hoy, hby⟩ := hrel
  by_cases hlt : j3 < A.length
  · obtain ⟨gx, capx, hvx⟩ : ∃ gx cap, Value.slice ra A.length rc = .slice (some ⟨gx, 0, none⟩) A.length cap := by
      rcases hoy.2 with ⟨_, h0⟩ | ⟨g, cap, cur, hv, _⟩
      · omega
      · exact ⟨g, cap, hv⟩
    injection hvx with e1 e2 e3
    subst e1 e3
    have hgx := (hoy.lt gx rfl).1
    obtain ⟨y, hy⟩ : ∃ y, ys[j3]? = some y := ⟨_, List.getElem?_eq_getElem (by rw [hoy.1]; omega)⟩
    have c0 := (hoy.cellAt j3 (by omega)).trans hy
    have f0 := hoy.frozenAt j3
    obtain ⟨hs1, hs2⟩ := hoy.stored j3 (.int .u8 97)
    have hby2 := hby.setCell (p := ⟨gx, j3, none⟩) hgx (.int .u8 97)
    replace hs1 := hid hs1
    replace hby2 := hid hby2
    clear hs2 hy hoy
    have ew : IntKind.i64.wrap ((j3 : Int) + 1) = (j3 : Int) + 1 := by
      have := hAl.out
      rw [IntWalk.i64_in _ (by omega)]
    go_wp2_with fail
    go_roundg (A.length - (j3 + 1))
    case measure => omega
    case rel => exact ⟨j3 + 1, ys.set j3 (.int .u8 97), by omega, by go_num, hs1.out, hby2.out⟩
  clear hj3 hoy
  replace x8 := hid (x8.out.later hby)
  replace x9 := hid (x9.out.later hby)
  replace C := hid (C.out.step hby)
  clear hby
  go_wp2_with fail
  clear hlt
  refine (haf.out _ _ C.out.hc).mono ?_
  rintro e w11 ⟨v11, rfl, h11, ho11⟩
  have x11 := hid ((OwnB.bytes ⟨h11, ho11⟩).keep (fun b hb => hb.2) (fun _ _ => rfl) : BytesAt w11 (Now w11) A v11)
  replace x8 := hid (x8.out.later h11)
  replace x9 := hid (x9.out.later h11)
  replace C := hid (C.out.step h11)
  clear h11 ho11
  obtain ⟨a11, c11, rfl, _⟩ := id x11.out
  go_wp2_with fail
  refine (hra.out _ C.out.D).mono ?_
  rintro e w12 ⟨v12, rfl, ho12⟩
  have x12 := hid (ho12.bytes.keep (fun b hb => hb.2) (fun _ _ => rfl) : BytesAt w12 (Now w12) A v12)
  have h12 := ho12.1
  replace x8 := hid (x8.out.later h12)
  replace x9 := hid (x9.out.later h12)
  replace x11 := hid (x11.out.later h12)
  replace C := hid (C.out.step h12)
  clear h12 ho12
  obtain ⟨a12, c12, rfl, _⟩ := id x12.out
  go_wp2_with fail
  refine (hbk.out _ _ C.out.hc (hT.out _ C.out.D)).mono ?_
  rintro e w13 ⟨cs13, rfl, h13, hr13, ht13⟩
  obtain ⟨xa, xc, za, zc, rfl, _, _, _, _, _, _, _, hxL, hxF⟩ := hr13.inv
  have hRL := rows_list (B := w12.heap.size) hxL (fun ad h => ht13 3 ad _ _ (by rw [h]; rfl))
  clear hxL hxF hr13 ht13
  go_upto_region 22 with fail
  obtain ⟨w14, hw14⟩ : ∃ w14, w14 = w13.alloc (.cells #[.int .i64 xk, .int .i64 xn, .string xt, .slice xa xl.length xc, .slice za xfv.length zc] 25) := ⟨_, rfl⟩
  have h14 : Below w13.heap.size w13 w14 := by rw [hw14]; exact below_new _ _
  have r14 : Hid (w14.heap[w13.heap.size]? = some (.cells #[.int .i64 xk, .int .i64 xn, .string xt, .slice xa xl.length xc, .slice za xfv.length zc] 25 (0, 0))) := by show _ = _; rw [hw14]; exact heap_alloc_new _ _
  rw [← hw14]
  clear hw14
  have K6 := hid (h13.step h14)
  replace hRL := hid (hRL.later (Nat.le_refl _) h14)
  have hw13 : Hid (w12.heap.size ≤ w13.heap.size) := h13.size
  clear h13 h14
  go_wp2_with fail
  go_loopg [22] xl.length (fun g i wr => ∃ j : Nat, g + j = xl.length ∧ i = .int .i64 j ∧ Below w12.heap.size w12 wr ∧ wr.heap[w13.heap.size]? = some (.cells #[.int .i64 xk, .int .i64 xn, .string xt, .slice xa xl.length xc, .slice za xfv.length zc] 25 (0, 0)) ∧ Rows0 w12.heap.size w13.heap.size 5 xl.length xa wr)
  case atStart => exact ⟨0, by omega, rfl, K6.out, r14.out, hRL.out⟩
  case round =>
  clear hRL r14 K6
  obtain ⟨j, hjj, rfl, hK, hr, hL⟩ := hrel
  replace hK := hid hK
  replace hr := hid hr
  replace hL := hid hL
  by_cases hlt : j < xl.length
  · obtain ⟨b, off, rfl, hb1, hb2, hth⟩ := hL.out.resolve_left (by omega)
    obtain ⟨u0, c0⟩ := hth.cell (o := off + j * 5) (by omega)
    obtain ⟨u1, c1⟩ := hth.cell (o := off + j * 5 + 1) (by omega)
    obtain ⟨u2, c2⟩ := hth.cell (o := off + j * 5 + 2) (by omega)
    obtain ⟨u3, c3⟩ := hth.cell (o := off + j * 5 + 3) (by omega)
    obtain ⟨u4, c4⟩ := hth.cell (o := off + j * 5 + 4) (by omega)
    replace c0 := hid c0
    replace c1 := hid c1
    replace c2 := hid c2
    replace c3 := hid c3
    replace c4 := hid c4
    replace hth := hid hth
    have d0 := box_at (j := 0) hr.out rfl
    have d1 := box_at (j := 1) hr.out rfl
    have d2 := box_at (j := 2) hr.out rfl
    have d3 := box_at (j := 3) hr.out rfl
    have d4 := box_at (j := 4) hr.out rfl
    go_upto_region 25 with fail
    clear d0 d1 d2 d3 d4
    refine wp_region_T (KqS w13.heap.size (.slice (some ⟨b, off, none⟩) xl.length xc)) 5 (by kernel_rfl) ?_
    have hS0 : KqS w13.heap.size (.slice (some ⟨b, off, none⟩) xl.length xc) wr.drew := kqS_mk hr.out rfl
    ((refine wpAnyT_take (i := 0) (v := ?_) rfl (by kernel_rfl) (by kernel_rfl) (by kernel_rfl) (by kernel_rfl) (by exact fun _ _ _ h => h) (Or.inl ⟨by kernel_rfl, ?_⟩) hS0 ?_; rotate_left 1; focus (intro w hSw; unfold KqS at hSw; (try dsimp only at hSw); go_simp; try with_reducible rfl); (try simp only [List.getElem_toArray, List.getElem_cons_zero, List.getElem_cons_succ, Act.put, List.setIfInBounds_toArray, List.set_cons_zero, List.set_cons_succ])); (refine wpAnyT_take (i := 1) (v := ?_) rfl (by kernel_rfl) (by kernel_rfl) (by kernel_rfl) (by kernel_rfl) (by exact fun _ _ _ h => h) (Or.inl ⟨by kernel_rfl, ?_⟩) hS0 ?_; rotate_left 1; focus (intro w hSw; unfold KqS at hSw; (try dsimp only at hSw); go_simp; try with_reducible rfl); (try simp only [List.getElem_toArray, List.getElem_cons_zero, List.getElem_cons_succ, Act.put, List.setIfInBounds_toArray, List.set_cons_zero, List.set_cons_succ])); (refine wpAnyT_take (i := 2) (v := ?_) rfl (by kernel_rfl) (by kernel_rfl) (by kernel_rfl) (by kernel_rfl) (by exact fun _ _ _ h => h) (Or.inl ⟨by kernel_rfl, ?_⟩) hS0 ?_; rotate_left 1; focus (intro w hSw; unfold KqS at hSw; (try dsimp only at hSw); go_simp; try with_reducible rfl); (try simp only [List.getElem_toArray, List.getElem_cons_zero, List.getElem_cons_succ, Act.put, List.setIfInBounds_toArray, List.set_cons_zero, List.set_cons_succ])))
    refine wpAnyT_one (i := 3) (by kernel_rfl) rfl (fun K hK => ?_)
    go_simp
    refine (hnu.out _).mono ?_
    rintro e wq ⟨rfl, hq⟩
    have Q := hid ((Below.refl wr.heap.size wr).drew.step hq)
    clear hq hS0
    have hS0 := kqS_mk hr.out (Q.out.block _ (lt_of_block hr.out))
    have hne : w13.heap.size ≠ b := by omega
    have hbr := Nat.lt_trans hb2 (lt_of_block hr.out)
    (refine hK.out _ _ (fun _ => hS0) (fun _ => ?_); clear hK K; (try simp only [Act.put, List.setIfInBounds_toArray, List.set_cons_zero, List.set_cons_succ]))
    ((refine wpAnyT_take (i := 4) (v := ?_) rfl (by kernel_rfl) (by kernel_rfl) (by kernel_rfl) (by kernel_rfl) (by exact fun _ _ _ h => h) (Or.inl ⟨by kernel_rfl, ?_⟩) hS0 ?_; rotate_left 1; focus (intro w hSw; unfold KqS at hSw; (try dsimp only at hSw); go_simp; try with_reducible rfl); (try simp only [List.getElem_toArray, List.getElem_cons_zero, List.getElem_cons_succ, Act.put, List.setIfInBounds_toArray, List.set_cons_zero, List.set_cons_succ])))
    have e0 := (Q.out.cell (p := ⟨b, off + j * 5, none⟩) hbr).trans c0.out
    have e1 := (Q.out.cell (p := ⟨b, off + j * 5 + 1, none⟩) hbr).trans c1.out
    have e2 := (Q.out.cell (p := ⟨b, off + j * 5 + 2, none⟩) hbr).trans c2.out
    have e3' := (Q.out.cell (p := ⟨b, off + j * 5 + 3, none⟩) hbr).trans c3.out
    have e4 := (Q.out.cell (p := ⟨b, off + j * 5 + 4, none⟩) hbr).trans c4.out
    have hthq := hth.out.keep (Q.out.block b hbr)
    have f0 := hthq.free (off + j * 5)
    have f1 := hthq.free (off + j * 5 + 1)
    have f2 := hthq.free (off + j * 5 + 2)
    have f3 := hthq.free (off + j * 5 + 3)
    have f4 := hthq.free (off + j * 5 + 4)
    clear hthq
    refine wpAnyT_one (i := 5) (by kernel_rfl) rfl (fun K hK => ?_)
    go_simp
    (refine hK.out _ _ (fun h => absurd h (by decide)) (fun _ => ?_); clear hK K; (try simp only [Act.put, List.setIfInBounds_toArray]))
    clear e0 e1 e2 e3' e4 f0 f1 f2 f3 f4 hS0
    refine wpAnyT_done (by kernel_rfl) ?_ _
    have hKn := hid ((((((hK.out.step Q.out).setCell (p := ⟨b, off + j * 5, none⟩) hb1 (.int .i64 1)).setCell (p := ⟨b, off + j * 5 + 1, none⟩) hb1 (.int .i64 0)).setCell (p := ⟨b, off + j * 5 + 2, none⟩) hb1 (.string ByteArray.empty)).setCell (p := ⟨b, off + j * 5 + 3, none⟩) hb1 (.slice none 0 0)).setCell (p := ⟨b, off + j * 5 + 4, none⟩) hb1 (.slice none 0 0))
    have hLn := hid ((((((hL.out.later (Nat.le_of_lt (lt_of_block hr.out)) Q.out).set b (off + j * 5) (.int .i64 1)).set b (off + j * 5 + 1) (.int .i64 0)).set b (off + j * 5 + 2) (.string ByteArray.empty)).set b (off + j * 5 + 3) (.slice none 0 0)).set b (off + j * 5 + 4) (.slice none 0 0))
    have hrn : Hid ((((((wq.setCell ⟨b, off + j * 5, none⟩ (.int .i64 1)).setCell ⟨b, off + j * 5 + 1, none⟩ (.int .i64 0)).setCell ⟨b, off + j * 5 + 2, none⟩ (.string ByteArray.empty)).setCell ⟨b, off + j * 5 + 3, none⟩ (.slice none 0 0)).setCell ⟨b, off + j * 5 + 4, none⟩ (.slice none 0 0)).heap[w13.heap.size]? = some (.cells #[.int .i64 xk, .int .i64 xn, .string xt, .slice (some ⟨b, off, none⟩) xl.length xc, .slice za xfv.length zc] 25 (0, 0))) := by
      show _ = _
      rw [Below.heap_setCell _ _ _ _ hne, Below.heap_setCell _ _ _ _ hne, Below.heap_setCell _ _ _ _ hne, Below.heap_setCell _ _ _ _ hne, Below.heap_setCell _ _ _ _ hne]
      exact (Q.out.block _ (lt_of_block hr.out)).trans hr.out
    go_wp2_with fail
    go_roundg (xl.length - (j + 1))
    case measure => omega
    case rel => exact ⟨j + 1, by omega, by go_num, hKn.out, hrn.out, hLn.out⟩
  have d0 := box_at (j := 0) hr.out rfl
  have d1 := box_at (j := 1) hr.out rfl
  have d2 := box_at (j := 2) hr.out rfl
  have d3 := box_at (j := 3) hr.out rfl
  have d4 := box_at (j := 4) hr.out rfl
  replace x8 := hid (x8.out.later hK.out)
  replace x9 := hid (x9.out.later hK.out)
  replace x11 := hid (x11.out.later hK.out)
  replace x12 := hid (x12.out.later hK.out)
  replace C := hid (C.out.step hK.out)
  clear hK hr hL hw13 hjj
  go_wp2_with fail
  clear hlt
  clear d0 d1 d2 d3 d4
  refine (hbk.out _ _ C.out.hc (hT.out _ C.out.D)).mono ?_
  rintro e w15 ⟨cs15, rfl, h15, hr15, _⟩
  obtain ⟨ya, yc, ua, uc, rfl, _⟩ := hr15.inv
  replace hr15 : Hid (Rd w15 (Now w15) _ _) := hr15.keep (fun b hb => hb.2) (fun _ _ => rfl)
  go_upto_region 27 with fail
  obtain ⟨w16, hw16⟩ : ∃ w16, w16 = w15.alloc (.cells #[.int .i64 xk, .int .i64 xn, .string xt, .slice ya xl.length yc, .slice ua xfv.length uc] 25) := ⟨_, rfl⟩
  have h16 : Below w15.heap.size w15 w16 := by rw [hw16]; exact below_new _ _
  have r16 : Hid (w16.heap[w15.heap.size]? = some (.cells #[.int .i64 xk, .int .i64 xn, .string xt, .slice ya xl.length yc, .slice ua xfv.length uc] 25 (0, 0))) := by show _ = _; rw [hw16]; exact heap_alloc_new _ _
  rw [← hw16]
  clear hw16
  have h56 := h15.step h16
  replace x8 := hid (x8.out.later h56)
  replace x9 := hid (x9.out.later h56)
  replace x11 := hid (x11.out.later h56)
  replace x12 := hid (x12.out.later h56)
  replace C := hid (C.out.step h56)
  replace hr15 := hid (hr15.out.later h16)
  clear h15 h16 h56
  go_wp2_with fail
  refine (hrs.out _ C.out.D).mono ?_
  rintro e wD ⟨hD, hR⟩
  replace x8 := hid (x8.out.later hD)
  replace x9 := hid (x9.out.later hD)
  replace x11 := hid (x11.out.later hD)
  replace x12 := hid (x12.out.later hD)
  replace C := hid (C.out.step hD)
  replace hr15 := hid (hr15.out.later hD)
  replace r16 := hid ((hD.block _ (lt_of_block r16.out)).trans r16.out)
  clear hD
  have ez : (0 : Int) ≤ (l.length : Int) + 1 := by omega
  have ey : (l.length : Int) < (l.length : Int) + 1 := by omega
  have ecap : (l.length : Int) + 1 ≤ (cap3 : Int) := by omega
  have ew : IntKind.i64.wrap ((l.length : Int) + 1) = (l.length : Int) + 1 := by rw [IntWalk.i64_in _ (by omega)]
  cases R with
  | none =>
    simp only at hR
    subst hR
    obtain rfl : e3 = 4 := he3.out
    have hS : Hid (∀ x, Below wD.heap.size wD x → KgS w15.heap.size (.int .i64 xk) (.int .i64 xn) (.string xt) (.slice ya xl.length yc) (.slice ua xfv.length uc) (.slice a8 J.length c8) (.slice a9 J.length c9) (.slice a11 A.length c11) (.slice a12 A.length c12) (.slice (some ⟨qg, 0, none⟩) l.length cap3) (.slice ba l.length bc) ⟨J.toArray⟩ ⟨A.toArray⟩ ⟨l.toArray⟩ qg l.length x) := fun x h => by
      have e1 := (h.block _ (lt_of_block r16.out)).trans r16.out
      have C' := C.out.step h
      exact ⟨box_at (j := 0) e1 rfl, box_at (j := 1) e1 rfl, box_at (j := 2) e1 rfl, box_at (j := 3) e1 rfl, box_at (j := 4) e1 rfl, conv_at (x8.out.later h), conv_at (x9.out.later h), conv_at (x11.out.later h), conv_at (x12.out.later h), conv_at C'.hc, conv_at (hb0.out.later C'.D), C'.h201⟩
    clear x8 x9 x11 x12 r16 hr15 hT haw hva hj hrj haf hra hbk hrs hsm hnu hln hV3 he3
    go_upto_region 28 with fail
    refine wp_region_T (KgS w15.heap.size (.int .i64 xk) (.int .i64 xn) (.string xt) (.slice ya xl.length yc) (.slice ua xfv.length uc) (.slice a8 J.length c8) (.slice a9 J.length c9) (.slice a11 A.length c11) (.slice a12 A.length c12) (.slice (some ⟨qg, 0, none⟩) l.length cap3) (.slice ba l.length bc) ⟨J.toArray⟩ ⟨A.toArray⟩ ⟨l.toArray⟩ qg l.length) 64 (by kernel_rfl) ?_
    have hS0 := hS.out _ (Below.refl wD.heap.size wD).drew
    ((refine wpAnyT_take (i := 0) (v := ?_) rfl (by kernel_rfl) (by kernel_rfl) (by kernel_rfl) (by kernel_rfl) (by exact fun _ _ _ h => h) (Or.inl ⟨by kernel_rfl, ?_⟩) hS0 ?_; rotate_left 1; focus (intro w hSw; unfold KgS at hSw; (try dsimp only at hSw); go_simp; try with_reducible rfl); (try simp only [List.getElem_toArray, List.getElem_cons_zero, List.getElem_cons_succ, Act.put, List.setIfInBounds_toArray, List.set_cons_zero, List.set_cons_succ])); (refine wpAnyT_take (i := 1) (v := ?_) rfl (by kernel_rfl) (by kernel_rfl) (by kernel_rfl) (by kernel_rfl) (by exact fun _ _ _ h => h) (Or.inl ⟨by kernel_rfl, ?_⟩) hS0 ?_; rotate_left 1; focus (intro w hSw; unfold KgS at hSw; (try dsimp only at hSw); go_simp; try with_reducible rfl); (try simp only [List.getElem_toArray, List.getElem_cons_zero, List.getElem_cons_succ, Act.put, List.setIfInBounds_toArray, List.set_cons_zero, List.set_cons_succ])); (refine wpAnyT_take (i := 2) (v := ?_) rfl (by kernel_rfl) (by kernel_rfl) (by kernel_rfl) (by kernel_rfl) (by exact fun _ _ _ h => h) (Or.inl ⟨by kernel_rfl, ?_⟩) hS0 ?_; rotate_left 1; focus (intro w hSw; unfold KgS at hSw; (try dsimp only at hSw); go_simp; try with_reducible rfl); (try simp only [List.getElem_toArray, List.getElem_cons_zero, List.getElem_cons_succ, Act.put, List.setIfInBounds_toArray, List.set_cons_zero, List.set_cons_succ])); (refine wpAnyT_take (i := 3) (v := ?_) rfl (by kernel_rfl) (by kernel_rfl) (by kernel_rfl) (by kernel_rfl) (by exact fun _ _ _ h => h) (Or.inl ⟨by kernel_rfl, ?_⟩) hS0 ?_; rotate_left 1; focus (intro w hSw; unfold KgS at hSw; (try dsimp only at hSw); go_simp; try with_reducible rfl); (try simp only [List.getElem_toArray, List.getElem_cons_zero, List.getElem_cons_succ, Act.put, List.setIfInBounds_toArray, List.set_cons_zero, List.set_cons_succ])); (refine wpAnyT_take (i := 4) (v := ?_) rfl (by kernel_rfl) (by kernel_rfl) (by kernel_rfl) (by kernel_rfl) (by exact fun _ _ _ h => h) (Or.inl ⟨by kernel_rfl, ?_⟩) hS0 ?_; rotate_left 1; focus (intro w hSw; unfold KgS at hSw; (try dsimp only at hSw); go_simp; try with_reducible rfl); (try simp only [List.getElem_toArray, List.getElem_cons_zero, List.getElem_cons_succ, Act.put, List.setIfInBounds_toArray, List.set_cons_zero, List.set_cons_succ])); (refine wpAnyT_take (i := 5) (v := ?_) rfl (by kernel_rfl) (by kernel_rfl) (by kernel_rfl) (by kernel_rfl) (by exact fun _ _ _ h => h) (Or.inl ⟨by kernel_rfl, ?_⟩) hS0 ?_; rotate_left 1; focus (intro w hSw; unfold KgS at hSw; (try dsimp only at hSw); go_simp; try with_reducible rfl); (try simp only [List.getElem_toArray, List.getElem_cons_zero, List.getElem_cons_succ, Act.put, List.setIfInBounds_toArray, List.set_cons_zero, List.set_cons_succ])); (refine wpAnyT_take (i := 6) (v := ?_) rfl (by kernel_rfl) (by kernel_rfl) (by kernel_rfl) (by kernel_rfl) (by exact fun _ _ _ h => h) (Or.inl ⟨by kernel_rfl, ?_⟩) hS0 ?_; rotate_left 1; focus (intro w hSw; unfold KgS at hSw; (try dsimp only at hSw); go_simp; try with_reducible rfl); (try simp only [List.getElem_toArray, List.getElem_cons_zero, List.getElem_cons_succ, Act.put, List.setIfInBounds_toArray, List.set_cons_zero, List.set_cons_succ])); (refine wpAnyT_take (i := 7) (v := ?_) rfl (by kernel_rfl) (by kernel_rfl) (by kernel_rfl) (by kernel_rfl) (by exact fun _ _ _ h => h) (Or.inl ⟨by kernel_rfl, ?_⟩) hS0 ?_; rotate_left 1; focus (intro w hSw; unfold KgS at hSw; (try dsimp only at hSw); go_simp; try with_reducible rfl); (try simp only [List.getElem_toArray, List.getElem_cons_zero, List.getElem_cons_succ, Act.put, List.setIfInBounds_toArray, List.set_cons_zero, List.set_cons_succ])); (refine wpAnyT_take (i := 8) (v := ?_) rfl (by kernel_rfl) (by kernel_rfl) (by kernel_rfl) (by kernel_rfl) (by exact fun _ _ _ h => h) (Or.inl ⟨by kernel_rfl, ?_⟩) hS0 ?_; rotate_left 1; focus (intro w hSw; unfold KgS at hSw; (try dsimp only at hSw); go_simp; try with_reducible rfl); (try simp only [List.getElem_toArray, List.getElem_cons_zero, List.getElem_cons_succ, Act.put, List.setIfInBounds_toArray, List.set_cons_zero, List.set_cons_succ])); (refine wpAnyT_take (i := 9) (v := ?_) rfl (by kernel_rfl) (by kernel_rfl) (by kernel_rfl) (by kernel_rfl) (by exact fun _ _ _ h => h) (Or.inl ⟨by kernel_rfl, ?_⟩) hS0 ?_; rotate_left 1; focus (intro w hSw; unfold KgS at hSw; (try dsimp only at hSw); go_simp; try with_reducible rfl); (try simp only [List.getElem_toArray, List.getElem_cons_zero, List.getElem_cons_succ, Act.put, List.setIfInBounds_toArray, List.set_cons_zero, List.set_cons_succ])); (refine wpAnyT_take (i := 10) (v := ?_) rfl (by kernel_rfl) (by kernel_rfl) (by kernel_rfl) (by kernel_rfl) (by exact fun _ _ _ h => h) (Or.inl ⟨by kernel_rfl, ?_⟩) hS0 ?_; rotate_left 1; focus (intro w hSw; unfold KgS at hSw; (try dsimp only at hSw); go_simp; try with_reducible rfl); (try simp only [List.getElem_toArray, List.getElem_cons_zero, List.getElem_cons_succ, Act.put, List.setIfInBounds_toArray, List.set_cons_zero, List.set_cons_succ])); (refine wpAnyT_take (i := 11) (v := ?_) rfl (by kernel_rfl) (by kernel_rfl) (by kernel_rfl) (by kernel_rfl) (by exact fun _ _ _ h => h) (Or.inl ⟨by kernel_rfl, ?_⟩) hS0 ?_; rotate_left 1; focus (intro w hSw; unfold KgS at hSw; (try dsimp only at hSw); go_simp; try with_reducible rfl); (try simp only [List.getElem_toArray, List.getElem_cons_zero, List.getElem_cons_succ, Act.put, List.setIfInBounds_toArray, List.set_cons_zero, List.set_cons_succ])); (refine wpAnyT_take (i := 12) (v := ?_) rfl (by kernel_rfl) (by kernel_rfl) (by kernel_rfl) (by kernel_rfl) (by exact fun _ _ _ h => h) (Or.inl ⟨by kernel_rfl, ?_⟩) hS0 ?_; rotate_left 1; focus (intro w hSw; unfold KgS at hSw; (try dsimp only at hSw); go_simp; try with_reducible rfl); (try simp only [List.getElem_toArray, List.getElem_cons_zero, List.getElem_cons_succ, Act.put, List.setIfInBounds_toArray, List.set_cons_zero, List.set_cons_succ])); (refine wpAnyT_take (i := 13) (v := ?_) rfl (by kernel_rfl) (by kernel_rfl) (by kernel_rfl) (by kernel_rfl) (by exact fun _ _ _ h => h) (Or.inl ⟨by kernel_rfl, ?_⟩) hS0 ?_; rotate_left 1; focus (intro w hSw; unfold KgS at hSw; (try dsimp only at hSw); go_simp; try with_reducible rfl); (try simp only [List.getElem_toArray, List.getElem_cons_zero, List.getElem_cons_succ, Act.put, List.setIfInBounds_toArray, List.set_cons_zero, List.set_cons_succ])); (refine wpAnyT_take (i := 14) (v := ?_) rfl (by kernel_rfl) (by kernel_rfl) (by kernel_rfl) (by kernel_rfl) (by exact fun _ _ _ h => h) (Or.inl ⟨by kernel_rfl, ?_⟩) hS0 ?_; rotate_left 1; focus (intro w hSw; unfold KgS at hSw; (try dsimp only at hSw); go_simp; try with_reducible rfl); (try simp only [List.getElem_toArray, List.getElem_cons_zero, List.getElem_cons_succ, Act.put, List.setIfInBounds_toArray, List.set_cons_zero, List.set_cons_succ])); (refine wpAnyT_take (i := 15) (v := ?_) rfl (by kernel_rfl) (by kernel_rfl) (by kernel_rfl) (by kernel_rfl) (by exact fun _ _ _ h => h) (Or.inl ⟨by kernel_rfl, ?_⟩) hS0 ?_; rotate_left 1; focus (intro w hSw; unfold KgS at hSw; (try dsimp only at hSw); go_simp; try with_reducible rfl); (try simp only [List.getElem_toArray, List.getElem_cons_zero, List.getElem_cons_succ, Act.put, List.setIfInBounds_toArray, List.set_cons_zero, List.set_cons_succ])); (refine wpAnyT_take (i := 16) (v := ?_) rfl (by kernel_rfl) (by kernel_rfl) (by kernel_rfl) (by kernel_rfl) (by exact fun _ _ _ h => h) (Or.inl ⟨by kernel_rfl, ?_⟩) hS0 ?_; rotate_left 1; focus (intro w hSw; unfold KgS at hSw; (try dsimp only at hSw); go_simp; try with_reducible rfl); (try simp only [List.getElem_toArray, List.getElem_cons_zero, List.getElem_cons_succ, Act.put, List.setIfInBounds_toArray, List.set_cons_zero, List.set_cons_succ])); (refine wpAnyT_take (i := 17) (v := ?_) rfl (by kernel_rfl) (by kernel_rfl) (by kernel_rfl) (by kernel_rfl) (by exact fun _ _ _ h => h) (Or.inl ⟨by kernel_rfl, ?_⟩) hS0 ?_; rotate_left 1; focus (intro w hSw; unfold KgS at hSw; (try dsimp only at hSw); go_simp; try with_reducible rfl); (try simp only [List.getElem_toArray, List.getElem_cons_zero, List.getElem_cons_succ, Act.put, List.setIfInBounds_toArray, List.set_cons_zero, List.set_cons_succ])); (refine wpAnyT_take (i := 18) (v := ?_) rfl (by kernel_rfl) (by kernel_rfl) (by kernel_rfl) (by kernel_rfl) (by exact fun _ _ _ h => h) (Or.inl ⟨by kernel_rfl, ?_⟩) hS0 ?_; rotate_left 1; focus (intro w hSw; unfold KgS at hSw; (try dsimp only at hSw); go_simp; try with_reducible rfl); (try simp only [List.getElem_toArray, List.getElem_cons_zero, List.getElem_cons_succ, Act.put, List.setIfInBounds_toArray, List.set_cons_zero, List.set_cons_succ])); (refine wpAnyT_take (i := 19) (v := ?_) rfl (by kernel_rfl) (by kernel_rfl) (by kernel_rfl) (by kernel_rfl) (by exact fun _ _ _ h => h) (Or.inl ⟨by kernel_rfl, ?_⟩) hS0 ?_; rotate_left 1; focus (intro w hSw; unfold KgS at hSw; (try dsimp only at hSw); go_simp; try with_reducible rfl); (try simp only [List.getElem_toArray, List.getElem_cons_zero, List.getElem_cons_succ, Act.put, List.setIfInBounds_toArray, List.set_cons_zero, List.set_cons_succ])); (refine wpAnyT_take (i := 20) (v := ?_) rfl (by kernel_rfl) (by kernel_rfl) (by kernel_rfl) (by kernel_rfl) (by exact fun _ _ _ h => h) (Or.inl ⟨by kernel_rfl, ?_⟩) hS0 ?_; rotate_left 1; focus (intro w hSw; unfold KgS at hSw; (try dsimp only at hSw); go_simp; try with_reducible rfl); (try simp only [List.getElem_toArray, List.getElem_cons_zero, List.getElem_cons_succ, Act.put, List.setIfInBounds_toArray, List.set_cons_zero, List.set_cons_succ])); (refine wpAnyT_take (i := 21) (v := ?_) rfl (by kernel_rfl) (by kernel_rfl) (by kernel_rfl) (by kernel_rfl) (by exact fun _ _ _ h => h) (Or.inl ⟨by kernel_rfl, ?_⟩) hS0 ?_; rotate_left 1; focus (intro w hSw; unfold KgS at hSw; (try dsimp only at hSw); go_simp; try with_reducible rfl); (try simp only [List.getElem_toArray, List.getElem_cons_zero, List.getElem_cons_succ, Act.put, List.setIfInBounds_toArray, List.set_cons_zero, List.set_cons_succ])); (refine wpAnyT_take (i := 22) (v := ?_) rfl (by kernel_rfl) (by kernel_rfl) (by kernel_rfl) (by kernel_rfl) (by exact fun _ _ _ h => h) (Or.inl ⟨by kernel_rfl, ?_⟩) hS0 ?_; rotate_left 1; focus (intro w hSw; unfold KgS at hSw; (try dsimp only at hSw); go_simp; try with_reducible rfl); (try simp only [List.getElem_toArray, List.getElem_cons_zero, List.getElem_cons_succ, Act.put, List.setIfInBounds_toArray, List.set_cons_zero, List.set_cons_succ])); (refine wpAnyT_take (i := 23) (v := ?_) rfl (by kernel_rfl) (by kernel_rfl) (by kernel_rfl) (by kernel_rfl) (by exact fun _ _ _ h => h) (Or.inl ⟨by kernel_rfl, ?_⟩) hS0 ?_; rotate_left 1; focus (intro w hSw; unfold KgS at hSw; (try dsimp only at hSw); go_simp; try with_reducible rfl); (try simp only [List.getElem_toArray, List.getElem_cons_zero, List.getElem_cons_succ, Act.put, List.setIfInBounds_toArray, List.set_cons_zero, List.set_cons_succ])); (refine wpAnyT_take (i := 24) (v := ?_) rfl (by kernel_rfl) (by kernel_rfl) (by kernel_rfl) (by kernel_rfl) (by exact fun _ _ _ h => h) (Or.inl ⟨by kernel_rfl, ?_⟩) hS0 ?_; rotate_left 1; focus (intro w hSw; unfold KgS at hSw; (try dsimp only at hSw); go_simp; try with_reducible rfl); (try simp only [List.getElem_toArray, List.getElem_cons_zero, List.getElem_cons_succ, Act.put, List.setIfInBounds_toArray, List.set_cons_zero, List.set_cons_succ])); (refine wpAnyT_take (i := 25) (v := ?_) rfl (by kernel_rfl) (by kernel_rfl) (by kernel_rfl) (by kernel_rfl) (by exact fun _ _ _ h => h) (Or.inl ⟨by kernel_rfl, ?_⟩) hS0 ?_; rotate_left 1; focus (intro w hSw; unfold KgS at hSw; (try dsimp only at hSw); go_simp; try with_reducible rfl); (try simp only [List.getElem_toArray, List.getElem_cons_zero, List.getElem_cons_succ, Act.put, List.setIfInBounds_toArray, List.set_cons_zero, List.set_cons_succ])); (refine wpAnyT_take (i := 26) (v := ?_) rfl (by kernel_rfl) (by kernel_rfl) (by kernel_rfl) (by kernel_rfl) (by exact fun _ _ _ h => h) (Or.inl ⟨by kernel_rfl, ?_⟩) hS0 ?_; rotate_left 1; focus (intro w hSw; unfold KgS at hSw; (try dsimp only at hSw); go_simp; try with_reducible rfl); (try simp only [List.getElem_toArray, List.getElem_cons_zero, List.getElem_cons_succ, Act.put, List.setIfInBounds_toArray, List.set_cons_zero, List.set_cons_succ])); (refine wpAnyT_take (i := 27) (v := ?_) rfl (by kernel_rfl) (by kernel_rfl) (by kernel_rfl) (by kernel_rfl) (by exact fun _ _ _ h => h) (Or.inl ⟨by kernel_rfl, ?_⟩) hS0 ?_; rotate_left 1; focus (intro w hSw; unfold KgS at hSw; (try dsimp only at hSw); go_simp; try with_reducible rfl); (try simp only [List.getElem_toArray, List.getElem_cons_zero, List.getElem_cons_succ, Act.put, List.setIfInBounds_toArray, List.set_cons_zero, List.set_cons_succ])); (refine wpAnyT_take (i := 28) (v := ?_) rfl (by kernel_rfl) (by kernel_rfl) (by kernel_rfl) (by kernel_rfl) (by exact fun _ _ _ h => h) (Or.inl ⟨by kernel_rfl, ?_⟩) hS0 ?_; rotate_left 1; focus (intro w hSw; unfold KgS at hSw; (try dsimp only at hSw); go_simp; try with_reducible rfl); (try simp only [List.getElem_toArray, List.getElem_cons_zero, List.getElem_cons_succ, Act.put, List.setIfInBounds_toArray, List.set_cons_zero, List.set_cons_succ])); (refine wpAnyT_take (i := 29) (v := ?_) rfl (by kernel_rfl) (by kernel_rfl) (by kernel_rfl) (by kernel_rfl) (by exact fun _ _ _ h => h) (Or.inl ⟨by kernel_rfl, ?_⟩) hS0 ?_; rotate_left 1; focus (intro w hSw; unfold KgS at hSw; (try dsimp only at hSw); go_simp; try with_reducible rfl); (try simp only [List.getElem_toArray, List.getElem_cons_zero, List.getElem_cons_succ, Act.put, List.setIfInBounds_toArray, List.set_cons_zero, List.set_cons_succ])); (refine wpAnyT_take (i := 30) (v := ?_) rfl (by kernel_rfl) (by kernel_rfl) (by kernel_rfl) (by kernel_rfl) (by exact fun _ _ _ h => h) (Or.inl ⟨by kernel_rfl, ?_⟩) hS0 ?_; rotate_left 1; focus (intro w hSw; unfold KgS at hSw; (try dsimp only at hSw); go_simp; try with_reducible rfl); (try simp only [List.getElem_toArray, List.getElem_cons_zero, List.getElem_cons_succ, Act.put, List.setIfInBounds_toArray, List.set_cons_zero, List.set_cons_succ])); (refine wpAnyT_take (i := 31) (v := ?_) rfl (by kernel_rfl) (by kernel_rfl) (by kernel_rfl) (by kernel_rfl) (by exact fun _ _ _ h => h) (Or.inl ⟨by kernel_rfl, ?_⟩) hS0 ?_; rotate_left 1; focus (intro w hSw; unfold KgS at hSw; (try dsimp only at hSw); go_simp; try with_reducible rfl); (try simp only [List.getElem_toArray, List.getElem_cons_zero, List.getElem_cons_succ, Act.put, List.setIfInBounds_toArray, List.set_cons_zero, List.set_cons_succ])); (refine wpAnyT_take (i := 32) (v := ?_) rfl (by kernel_rfl) (by kernel_rfl) (by kernel_rfl) (by kernel_rfl) (by exact fun _ _ _ h => h) (Or.inl ⟨by kernel_rfl, ?_⟩) hS0 ?_; rotate_left 1; focus (intro w hSw; unfold KgS at hSw; (try dsimp only at hSw); go_simp; try with_reducible rfl); (try simp only [List.getElem_toArray, List.getElem_cons_zero, List.getElem_cons_succ, Act.put, List.setIfInBounds_toArray, List.set_cons_zero, List.set_cons_succ])); (refine wpAnyT_take (i := 33) (v := ?_) rfl (by kernel_rfl) (by kernel_rfl) (by kernel_rfl) (by kernel_rfl) (by exact fun _ _ _ h => h) (Or.inl ⟨by kernel_rfl, ?_⟩) hS0 ?_; rotate_left 1; focus (intro w hSw; unfold KgS at hSw; (try dsimp only at hSw); go_simp; try with_reducible rfl); (try simp only [List.getElem_toArray, List.getElem_cons_zero, List.getElem_cons_succ, Act.put, List.setIfInBounds_toArray, List.set_cons_zero, List.set_cons_succ])); (refine wpAnyT_take (i := 34) (v := ?_) rfl (by kernel_rfl) (by kernel_rfl) (by kernel_rfl) (by kernel_rfl) (by exact fun _ _ _ h => h) (Or.inl ⟨by kernel_rfl, ?_⟩) hS0 ?_; rotate_left 1; focus (intro w hSw; unfold KgS at hSw; (try dsimp only at hSw); go_simp; try with_reducible rfl); (try simp only [List.getElem_toArray, List.getElem_cons_zero, List.getElem_cons_succ, Act.put, List.setIfInBounds_toArray, List.set_cons_zero, List.set_cons_succ])); (refine wpAnyT_take (i := 35) (v := ?_) rfl (by kernel_rfl) (by kernel_rfl) (by kernel_rfl) (by kernel_rfl) (by exact fun _ _ _ h => h) (Or.inl ⟨by kernel_rfl, ?_⟩) hS0 ?_; rotate_left 1; focus (intro w hSw; unfold KgS at hSw; (try dsimp only at hSw); go_simp; try with_reducible rfl); (try simp only [List.getElem_toArray, List.getElem_cons_zero, List.getElem_cons_succ, Act.put, List.setIfInBounds_toArray, List.set_cons_zero, List.set_cons_succ])); (refine wpAnyT_take (i := 36) (v := ?_) rfl (by kernel_rfl) (by kernel_rfl) (by kernel_rfl) (by kernel_rfl) (by exact fun _ _ _ h => h) (Or.inl ⟨by kernel_rfl, ?_⟩) hS0 ?_; rotate_left 1; focus (intro w hSw; unfold KgS at hSw; (try dsimp only at hSw); go_simp; try with_reducible rfl); (try simp only [List.getElem_toArray, List.getElem_cons_zero, List.getElem_cons_succ, Act.put, List.setIfInBounds_toArray, List.set_cons_zero, List.set_cons_succ])))
    ((refine wpAnyT_take (i := 37) (v := _) rfl (by kernel_rfl) (by kernel_rfl) (by kernel_rfl) (by kernel_rfl) (by exact fun _ _ _ h => h) (Or.inr ⟨by kernel_rfl, rfl⟩) hS0 ?_; (try simp only [List.getElem_toArray, List.getElem_cons_zero, List.getElem_cons_succ, Act.put, List.setIfInBounds_toArray, List.set_cons_zero, List.set_cons_succ])); (refine wpAnyT_take (i := 38) (v := _) rfl (by kernel_rfl) (by kernel_rfl) (by kernel_rfl) (by kernel_rfl) (by exact fun _ _ _ h => h) (Or.inr ⟨by kernel_rfl, rfl⟩) hS0 ?_; (try simp only [List.getElem_toArray, List.getElem_cons_zero, List.getElem_cons_succ, Act.put, List.setIfInBounds_toArray, List.set_cons_zero, List.set_cons_succ])); (refine wpAnyT_take (i := 39) (v := _) rfl (by kernel_rfl) (by kernel_rfl) (by kernel_rfl) (by kernel_rfl) (by exact fun _ _ _ h => h) (Or.inr ⟨by kernel_rfl, rfl⟩) hS0 ?_; (try simp only [List.getElem_toArray, List.getElem_cons_zero, List.getElem_cons_succ, Act.put, List.setIfInBounds_toArray, List.set_cons_zero, List.set_cons_succ])); (refine wpAnyT_take (i := 40) (v := _) rfl (by kernel_rfl) (by kernel_rfl) (by kernel_rfl) (by kernel_rfl) (by exact fun _ _ _ h => h) (Or.inr ⟨by kernel_rfl, rfl⟩) hS0 ?_; (try simp only [List.getElem_toArray, List.getElem_cons_zero, List.getElem_cons_succ, Act.put, List.setIfInBounds_toArray, List.set_cons_zero, List.set_cons_succ])); (refine wpAnyT_take (i := 41) (v := _) rfl (by kernel_rfl) (by kernel_rfl) (by kernel_rfl) (by kernel_rfl) (by exact fun _ _ _ h => h) (Or.inr ⟨by kernel_rfl, rfl⟩) hS0 ?_; (try simp only [List.getElem_toArray, List.getElem_cons_zero, List.getElem_cons_succ, Act.put, List.setIfInBounds_toArray, List.set_cons_zero, List.set_cons_succ])))
    ((refine wpAnyT_take (i := 42) (v := ?_) rfl (by kernel_rfl) (by kernel_rfl) (by kernel_rfl) (by kernel_rfl) (by exact fun _ _ _ h => h) (Or.inl ⟨by kernel_rfl, ?_⟩) hS0 ?_; rotate_left 1; focus (intro w hSw; unfold KgS at hSw; (try dsimp only at hSw); go_simp; try with_reducible rfl); (try simp only [List.getElem_toArray, List.getElem_cons_zero, List.getElem_cons_succ, Act.put, List.setIfInBounds_toArray, List.set_cons_zero, List.set_cons_succ])); (refine wpAnyT_take (i := 43) (v := ?_) rfl (by kernel_rfl) (by kernel_rfl) (by kernel_rfl) (by kernel_rfl) (by exact fun _ _ _ h => h) (Or.inl ⟨by kernel_rfl, ?_⟩) hS0 ?_; rotate_left 1; focus (intro w hSw; unfold KgS at hSw; (try dsimp only at hSw); go_simp; try with_reducible rfl); (try simp only [List.getElem_toArray, List.getElem_cons_zero, List.getElem_cons_succ, Act.put, List.setIfInBounds_toArray, List.set_cons_zero, List.set_cons_succ])); (refine wpAnyT_take (i := 44) (v := ?_) rfl (by kernel_rfl) (by kernel_rfl) (by kernel_rfl) (by kernel_rfl) (by exact fun _ _ _ h => h) (Or.inl ⟨by kernel_rfl, ?_⟩) hS0 ?_; rotate_left 1; focus (intro w hSw; unfold KgS at hSw; (try dsimp only at hSw); go_simp; try with_reducible rfl); (try simp only [List.getElem_toArray, List.getElem_cons_zero, List.getElem_cons_succ, Act.put, List.setIfInBounds_toArray, List.set_cons_zero, List.set_cons_succ])); (refine wpAnyT_take (i := 45) (v := ?_) rfl (by kernel_rfl) (by kernel_rfl) (by kernel_rfl) (by kernel_rfl) (by exact fun _ _ _ h => h) (Or.inl ⟨by kernel_rfl, ?_⟩) hS0 ?_; rotate_left 1; focus (intro w hSw; unfold KgS at hSw; (try dsimp only at hSw); go_simp; try with_reducible rfl); (try simp only [List.getElem_toArray, List.getElem_cons_zero, List.getElem_cons_succ, Act.put, List.setIfInBounds_toArray, List.set_cons_zero, List.set_cons_succ])); (refine wpAnyT_take (i := 46) (v := ?_) rfl (by kernel_rfl) (by kernel_rfl) (by kernel_rfl) (by kernel_rfl) (by exact fun _ _ _ h => h) (Or.inl ⟨by kernel_rfl, ?_⟩) hS0 ?_; rotate_left 1; focus (intro w hSw; unfold KgS at hSw; (try dsimp only at hSw); go_simp; try with_reducible rfl); (try simp only [List.getElem_toArray, List.getElem_cons_zero, List.getElem_cons_succ, Act.put, List.setIfInBounds_toArray, List.set_cons_zero, List.set_cons_succ])); (refine wpAnyT_take (i := 47) (v := ?_) rfl (by kernel_rfl) (by kernel_rfl) (by kernel_rfl) (by kernel_rfl) (by exact fun _ _ _ h => h) (Or.inl ⟨by kernel_rfl, ?_⟩) hS0 ?_; rotate_left 1; focus (intro w hSw; unfold KgS at hSw; (try dsimp only at hSw); go_simp; try with_reducible rfl); (try simp only [List.getElem_toArray, List.getElem_cons_zero, List.getElem_cons_succ, Act.put, List.setIfInBounds_toArray, List.set_cons_zero, List.set_cons_succ])); (refine wpAnyT_take (i := 48) (v := ?_) rfl (by kernel_rfl) (by kernel_rfl) (by kernel_rfl) (by kernel_rfl) (by exact fun _ _ _ h => h) (Or.inl ⟨by kernel_rfl, ?_⟩) hS0 ?_; rotate_left 1; focus (intro w hSw; unfold KgS at hSw; (try dsimp only at hSw); go_simp; try with_reducible rfl); (try simp only [List.getElem_toArray, List.getElem_cons_zero, List.getElem_cons_succ, Act.put, List.setIfInBounds_toArray, List.set_cons_zero, List.set_cons_succ])); (refine wpAnyT_take (i := 49) (v := ?_) rfl (by kernel_rfl) (by kernel_rfl) (by kernel_rfl) (by kernel_rfl) (by exact fun _ _ _ h => h) (Or.inl ⟨by kernel_rfl, ?_⟩) hS0 ?_; rotate_left 1; focus (intro w hSw; unfold KgS at hSw; (try dsimp only at hSw); go_simp; try with_reducible rfl); (try simp only [List.getElem_toArray, List.getElem_cons_zero, List.getElem_cons_succ, Act.put, List.setIfInBounds_toArray, List.set_cons_zero, List.set_cons_succ])); (refine wpAnyT_take (i := 50) (v := ?_) rfl (by kernel_rfl) (by kernel_rfl) (by kernel_rfl) (by kernel_rfl) (by exact fun _ _ _ h => h) (Or.inl ⟨by kernel_rfl, ?_⟩) hS0 ?_; rotate_left 1; focus (intro w hSw; unfold KgS at hSw; (try dsimp only at hSw); go_simp; try with_reducible rfl); (try simp only [List.getElem_toArray, List.getElem_cons_zero, List.getElem_cons_succ, Act.put, List.setIfInBounds_toArray, List.set_cons_zero, List.set_cons_succ])); (refine wpAnyT_take (i := 51) (v := ?_) rfl (by kernel_rfl) (by kernel_rfl) (by kernel_rfl) (by kernel_rfl) (by exact fun _ _ _ h => h) (Or.inl ⟨by kernel_rfl, ?_⟩) hS0 ?_; rotate_left 1; focus (intro w hSw; unfold KgS at hSw; (try dsimp only at hSw); go_simp; try with_reducible rfl); (try simp only [List.getElem_toArray, List.getElem_cons_zero, List.getElem_cons_succ, Act.put, List.setIfInBounds_toArray, List.set_cons_zero, List.set_cons_succ])); (refine wpAnyT_take (i := 52) (v := ?_) rfl (by kernel_rfl) (by kernel_rfl) (by kernel_rfl) (by kernel_rfl) (by exact fun _ _ _ h => h) (Or.inl ⟨by kernel_rfl, ?_⟩) hS0 ?_; rotate_left 1; focus (intro w hSw; unfold KgS at hSw; (try dsimp only at hSw); go_simp; try with_reducible rfl); (try simp only [List.getElem_toArray, List.getElem_cons_zero, List.getElem_cons_succ, Act.put, List.setIfInBounds_toArray, List.set_cons_zero, List.set_cons_succ])); (refine wpAnyT_take (i := 53) (v := ?_) rfl (by kernel_rfl) (by kernel_rfl) (by kernel_rfl) (by kernel_rfl) (by exact fun _ _ _ h => h) (Or.inl ⟨by kernel_rfl, ?_⟩) hS0 ?_; rotate_left 1; focus (intro w hSw; unfold KgS at hSw; (try dsimp only at hSw); go_simp; try with_reducible rfl); (try simp only [List.getElem_toArray, List.getElem_cons_zero, List.getElem_cons_succ, Act.put, List.setIfInBounds_toArray, List.set_cons_zero, List.set_cons_succ])); (refine wpAnyT_take (i := 54) (v := ?_) rfl (by kernel_rfl) (by kernel_rfl) (by kernel_rfl) (by kernel_rfl) (by exact fun _ _ _ h => h) (Or.inl ⟨by kernel_rfl, ?_⟩) hS0 ?_; rotate_left 1; focus (intro w hSw; unfold KgS at hSw; (try dsimp only at hSw); go_simp; try with_reducible rfl); (try simp only [List.getElem_toArray, List.getElem_cons_zero, List.getElem_cons_succ, Act.put, List.setIfInBounds_toArray, List.set_cons_zero, List.set_cons_succ])); (refine wpAnyT_take (i := 55) (v := ?_) rfl (by kernel_rfl) (by kernel_rfl) (by kernel_rfl) (by kernel_rfl) (by exact fun _ _ _ h => h) (Or.inl ⟨by kernel_rfl, ?_⟩) hS0 ?_; rotate_left 1; focus (intro w hSw; unfold KgS at hSw; (try dsimp only at hSw); go_simp; try with_reducible rfl); (try simp only [List.getElem_toArray, List.getElem_cons_zero, List.getElem_cons_succ, Act.put, List.setIfInBounds_toArray, List.set_cons_zero, List.set_cons_succ])); (refine wpAnyT_take (i := 56) (v := ?_) rfl (by kernel_rfl) (by kernel_rfl) (by kernel_rfl) (by kernel_rfl) (by exact fun _ _ _ h => h) (Or.inl ⟨by kernel_rfl, ?_⟩) hS0 ?_; rotate_left 1; focus (intro w hSw; unfold KgS at hSw; (try dsimp only at hSw); go_simp; try with_reducible rfl); (try simp only [List.getElem_toArray, List.getElem_cons_zero, List.getElem_cons_succ, Act.put, List.setIfInBounds_toArray, List.set_cons_zero, List.set_cons_succ])); (refine wpAnyT_take (i := 57) (v := ?_) rfl (by kernel_rfl) (by kernel_rfl) (by kernel_rfl) (by kernel_rfl) (by exact fun _ _ _ h => h) (Or.inl ⟨by kernel_rfl, ?_⟩) hS0 ?_; rotate_left 1; focus (intro w hSw; unfold KgS at hSw; (try dsimp only at hSw); go_simp; try with_reducible rfl); (try simp only [List.getElem_toArray, List.getElem_cons_zero, List.getElem_cons_succ, Act.put, List.setIfInBounds_toArray, List.set_cons_zero, List.set_cons_succ])); (refine wpAnyT_take (i := 58) (v := ?_) rfl (by kernel_rfl) (by kernel_rfl) (by kernel_rfl) (by kernel_rfl) (by exact fun _ _ _ h => h) (Or.inl ⟨by kernel_rfl, ?_⟩) hS0 ?_; rotate_left 1; focus (intro w hSw; unfold KgS at hSw; (try dsimp only at hSw); go_simp; try with_reducible rfl); (try simp only [List.getElem_toArray, List.getElem_cons_zero, List.getElem_cons_succ, Act.put, List.setIfInBounds_toArray, List.set_cons_zero, List.set_cons_succ])); (refine wpAnyT_take (i := 59) (v := ?_) rfl (by kernel_rfl) (by kernel_rfl) (by kernel_rfl) (by kernel_rfl) (by exact fun _ _ _ h => h) (Or.inl ⟨by kernel_rfl, ?_⟩) hS0 ?_; rotate_left 1; focus (intro w hSw; unfold KgS at hSw; (try dsimp only at hSw); go_simp; try with_reducible rfl); (try simp only [List.getElem_toArray, List.getElem_cons_zero, List.getElem_cons_succ, Act.put, List.setIfInBounds_toArray, List.set_cons_zero, List.set_cons_succ])); (refine wpAnyT_take (i := 60) (v := ?_) rfl (by kernel_rfl) (by kernel_rfl) (by kernel_rfl) (by kernel_rfl) (by exact fun _ _ _ h => h) (Or.inl ⟨by kernel_rfl, ?_⟩) hS0 ?_; rotate_left 1; focus (intro w hSw; unfold KgS at hSw; (try dsimp only at hSw); go_simp; try with_reducible rfl); (try simp only [List.getElem_toArray, List.getElem_cons_zero, List.getElem_cons_succ, Act.put, List.setIfInBounds_toArray, List.set_cons_zero, List.set_cons_succ])); (refine wpAnyT_take (i := 61) (v := ?_) rfl (by kernel_rfl) (by kernel_rfl) (by kernel_rfl) (by kernel_rfl) (by exact fun _ _ _ h => h) (Or.inl ⟨by kernel_rfl, ?_⟩) hS0 ?_; rotate_left 1; focus (intro w hSw; unfold KgS at hSw; (try dsimp only at hSw); go_simp; try with_reducible rfl); (try simp only [List.getElem_toArray, List.getElem_cons_zero, List.getElem_cons_succ, Act.put, List.setIfInBounds_toArray, List.set_cons_zero, List.set_cons_succ])); (refine wpAnyT_take (i := 62) (v := ?_) rfl (by kernel_rfl) (by kernel_rfl) (by kernel_rfl) (by kernel_rfl) (by exact fun _ _ _ h => h) (Or.inl ⟨by kernel_rfl, ?_⟩) hS0 ?_; rotate_left 1; focus (intro w hSw; unfold KgS at hSw; (try dsimp only at hSw); go_simp; try with_reducible rfl); (try simp only [List.getElem_toArray, List.getElem_cons_zero, List.getElem_cons_succ, Act.put, List.setIfInBounds_toArray, List.set_cons_zero, List.set_cons_succ])); (refine wpAnyT_take (i := 63) (v := ?_) rfl (by kernel_rfl) (by kernel_rfl) (by kernel_rfl) (by kernel_rfl) (by exact fun _ _ _ h => h) (Or.inl ⟨by kernel_rfl, ?_⟩) hS0 ?_; rotate_left 1; focus (intro w hSw; unfold KgS at hSw; (try dsimp only at hSw); go_simp; try with_reducible rfl); (try simp only [List.getElem_toArray, List.getElem_cons_zero, List.getElem_cons_succ, Act.put, List.setIfInBounds_toArray, List.set_cons_zero, List.set_cons_succ])))
    refine wpAnyT_done (by kernel_rfl) ?_ _
    go_wp2_with fail
    go_ret
    exact ⟨by kernel_rfl, C.out.D.drew⟩
  | some zs =>
    obtain ⟨x, rfl⟩ : ∃ x, zs = [x] := by
      have := hln.out zs rfl
      match zs, this with
      | [x], _ => exact ⟨x, rfl⟩
    obtain ⟨v17, rfl, r17⟩ := hR
    obtain rfl : e3 = 0 := he3.out
    obtain rfl : PVal.mk xk xn xt xl xfn xfv = x := hV3.out
    obtain ⟨b, o, cs9, hv17, hSb, hcell, hrd⟩ : ∃ b o cs, (∃ c, v17 = .slice (some ⟨b, o, none⟩) 1 c ∧ 1 ≤ c) ∧ Now wD b ∧ (∀ j v, cs[j]? = some v → wD.cell? ⟨b, o + 0 * 5 + j, none⟩ = some v) ∧ Rd wD (Now wD) (PVal.mk xk xn xt xl xfn xfv) cs := by
      obtain ⟨a6, c6, _, rfl, hc6, _⟩ := id r17
      obtain ⟨b, o, cs9, h1, hSb, hcell, hrd⟩ := RdL.at_ (i := 0) r17 rfl
      exact ⟨b, o, cs9, ⟨c6, by rw [h1]; rfl, hc6⟩, hSb, hcell, hrd⟩
    obtain ⟨c6, rfl, hc6⟩ := hv17
    obtain ⟨ta, tc, oa, oc, rfl, _⟩ := hrd.inv
    replace hrd := hid hrd
    have hcc := hid hcell
    have hbb := hid hSb
    clear hcell hSb r17
    have hS : Hid (∀ x, Below wD.heap.size wD x → KfS w15.heap.size b o (.int .i64 xk) (.int .i64 xn) (.string xt) (.slice ya xl.length yc) (.slice ua xfv.length uc) (.int .i64 xk) (.int .i64 xn) (.string xt) (.slice ta xl.length tc) (.slice oa xfv.length oc) (.slice a8 J.length c8) (.slice a9 J.length c9) (.slice a11 A.length c11) (.slice a12 A.length c12) (.slice (some ⟨qg, 0, none⟩) l.length cap3) (.slice ba l.length bc) ⟨J.toArray⟩ ⟨A.toArray⟩ ⟨l.toArray⟩ qg l.length x) := fun x h => by
      have e1 := (h.block _ (lt_of_block r16.out)).trans r16.out
      have C' := C.out.step h
      have hc : ∀ (j : Nat) (v : Value), [Value.int .i64 xk, .int .i64 xn, .string xt, .slice ta xl.length tc, .slice oa xfv.length oc][j]? = some v → x.cell? ⟨b, o + j, none⟩ = some v := fun j v hj => by
        have := hcc.out j v hj
        rw [Nat.zero_mul, Nat.add_zero] at this
        exact (h.cell (p := ⟨b, _, none⟩) hbb.out).trans this
      exact ⟨box_at (j := 0) e1 rfl, box_at (j := 1) e1 rfl, box_at (j := 2) e1 rfl, box_at (j := 3) e1 rfl, box_at (j := 4) e1 rfl, hc 0 _ rfl, hc 1 _ rfl, hc 2 _ rfl, hc 3 _ rfl, hc 4 _ rfl, conv_at (x8.out.later h), conv_at (x9.out.later h), conv_at (x11.out.later h), conv_at (x12.out.later h), conv_at C'.hc, conv_at (hb0.out.later C'.D), C'.h201⟩
    clear x8 x9 x11 x12 r16 hT haw hva hj hrj haf hra hbk hrs hnu hln hV3 he3 hcc hbb
    go_upto_region 28 with fail
    refine wp_region_T (KfS w15.heap.size b o (.int .i64 xk) (.int .i64 xn) (.string xt) (.slice ya xl.length yc) (.slice ua xfv.length uc) (.int .i64 xk) (.int .i64 xn) (.string xt) (.slice ta xl.length tc) (.slice oa xfv.length oc) (.slice a8 J.length c8) (.slice a9 J.length c9) (.slice a11 A.length c11) (.slice a12 A.length c12) (.slice (some ⟨qg, 0, none⟩) l.length cap3) (.slice ba l.length bc) ⟨J.toArray⟩ ⟨A.toArray⟩ ⟨l.toArray⟩ qg l.length) 64 (by kernel_rfl) ?_
    have hS0 := hS.out _ (Below.refl wD.heap.size wD).drew
    ((refine wpAnyT_take (i := 0) (v := ?_) rfl (by kernel_rfl) (by kernel_rfl) (by kernel_rfl) (by kernel_rfl) (by exact fun _ _ _ h => h) (Or.inl ⟨by kernel_rfl, ?_⟩) hS0 ?_; rotate_left 1; focus (intro w hSw; unfold KfS at hSw; (try dsimp only at hSw); go_simp; try with_reducible rfl); (try simp only [List.getElem_toArray, List.getElem_cons_zero, List.getElem_cons_succ, Act.put, List.setIfInBounds_toArray, List.set_cons_zero, List.set_cons_succ])); (refine wpAnyT_take (i := 1) (v := ?_) rfl (by kernel_rfl) (by kernel_rfl) (by kernel_rfl) (by kernel_rfl) (by exact fun _ _ _ h => h) (Or.inl ⟨by kernel_rfl, ?_⟩) hS0 ?_; rotate_left 1; focus (intro w hSw; unfold KfS at hSw; (try dsimp only at hSw); go_simp; try with_reducible rfl); (try simp only [List.getElem_toArray, List.getElem_cons_zero, List.getElem_cons_succ, Act.put, List.setIfInBounds_toArray, List.set_cons_zero, List.set_cons_succ])); (refine wpAnyT_take (i := 2) (v := ?_) rfl (by kernel_rfl) (by kernel_rfl) (by kernel_rfl) (by kernel_rfl) (by exact fun _ _ _ h => h) (Or.inl ⟨by kernel_rfl, ?_⟩) hS0 ?_; rotate_left 1; focus (intro w hSw; unfold KfS at hSw; (try dsimp only at hSw); go_simp; try with_reducible rfl); (try simp only [List.getElem_toArray, List.getElem_cons_zero, List.getElem_cons_succ, Act.put, List.setIfInBounds_toArray, List.set_cons_zero, List.set_cons_succ])); (refine wpAnyT_take (i := 3) (v := ?_) rfl (by kernel_rfl) (by kernel_rfl) (by kernel_rfl) (by kernel_rfl) (by exact fun _ _ _ h => h) (Or.inl ⟨by kernel_rfl, ?_⟩) hS0 ?_; rotate_left 1; focus (intro w hSw; unfold KfS at hSw; (try dsimp only at hSw); go_simp; try with_reducible rfl); (try simp only [List.getElem_toArray, List.getElem_cons_zero, List.getElem_cons_succ, Act.put, List.setIfInBounds_toArray, List.set_cons_zero, List.set_cons_succ])); (refine wpAnyT_take (i := 4) (v := ?_) rfl (by kernel_rfl) (by kernel_rfl) (by kernel_rfl) (by kernel_rfl) (by exact fun _ _ _ h => h) (Or.inl ⟨by kernel_rfl, ?_⟩) hS0 ?_; rotate_left 1; focus (intro w hSw; unfold KfS at hSw; (try dsimp only at hSw); go_simp; try with_reducible rfl); (try simp only [List.getElem_toArray, List.getElem_cons_zero, List.getElem_cons_succ, Act.put, List.setIfInBounds_toArray, List.set_cons_zero, List.set_cons_succ])); (refine wpAnyT_take (i := 5) (v := ?_) rfl (by kernel_rfl) (by kernel_rfl) (by kernel_rfl) (by kernel_rfl) (by exact fun _ _ _ h => h) (Or.inl ⟨by kernel_rfl, ?_⟩) hS0 ?_; rotate_left 1; focus (intro w hSw; unfold KfS at hSw; (try dsimp only at hSw); go_simp; try with_reducible rfl); (try simp only [List.getElem_toArray, List.getElem_cons_zero, List.getElem_cons_succ, Act.put, List.setIfInBounds_toArray, List.set_cons_zero, List.set_cons_succ])); (refine wpAnyT_take (i := 6) (v := ?_) rfl (by kernel_rfl) (by kernel_rfl) (by kernel_rfl) (by kernel_rfl) (by exact fun _ _ _ h => h) (Or.inl ⟨by kernel_rfl, ?_⟩) hS0 ?_; rotate_left 1; focus (intro w hSw; unfold KfS at hSw; (try dsimp only at hSw); go_simp; try with_reducible rfl); (try simp only [List.getElem_toArray, List.getElem_cons_zero, List.getElem_cons_succ, Act.put, List.setIfInBounds_toArray, List.set_cons_zero, List.set_cons_succ])); (refine wpAnyT_take (i := 7) (v := ?_) rfl (by kernel_rfl) (by kernel_rfl) (by kernel_rfl) (by kernel_rfl) (by exact fun _ _ _ h => h) (Or.inl ⟨by kernel_rfl, ?_⟩) hS0 ?_; rotate_left 1; focus (intro w hSw; unfold KfS at hSw; (try dsimp only at hSw); go_simp; try with_reducible rfl); (try simp only [List.getElem_toArray, List.getElem_cons_zero, List.getElem_cons_succ, Act.put, List.setIfInBounds_toArray, List.set_cons_zero, List.set_cons_succ])); (refine wpAnyT_take (i := 8) (v := ?_) rfl (by kernel_rfl) (by kernel_rfl) (by kernel_rfl) (by kernel_rfl) (by exact fun _ _ _ h => h) (Or.inl ⟨by kernel_rfl, ?_⟩) hS0 ?_; rotate_left 1; focus (intro w hSw; unfold KfS at hSw; (try dsimp only at hSw); go_simp; try with_reducible rfl); (try simp only [List.getElem_toArray, List.getElem_cons_zero, List.getElem_cons_succ, Act.put, List.setIfInBounds_toArray, List.set_cons_zero, List.set_cons_succ])); (refine wpAnyT_take (i := 9) (v := ?_) rfl (by kernel_rfl) (by kernel_rfl) (by kernel_rfl) (by kernel_rfl) (by exact fun _ _ _ h => h) (Or.inl ⟨by kernel_rfl, ?_⟩) hS0 ?_; rotate_left 1; focus (intro w hSw; unfold KfS at hSw; (try dsimp only at hSw); go_simp; try with_reducible rfl); (try simp only [List.getElem_toArray, List.getElem_cons_zero, List.getElem_cons_succ, Act.put, List.setIfInBounds_toArray, List.set_cons_zero, List.set_cons_succ])); (refine wpAnyT_take (i := 10) (v := ?_) rfl (by kernel_rfl) (by kernel_rfl) (by kernel_rfl) (by kernel_rfl) (by exact fun _ _ _ h => h) (Or.inl ⟨by kernel_rfl, ?_⟩) hS0 ?_; rotate_left 1; focus (intro w hSw; unfold KfS at hSw; (try dsimp only at hSw); go_simp; try with_reducible rfl); (try simp only [List.getElem_toArray, List.getElem_cons_zero, List.getElem_cons_succ, Act.put, List.setIfInBounds_toArray, List.set_cons_zero, List.set_cons_succ])); (refine wpAnyT_take (i := 11) (v := ?_) rfl (by kernel_rfl) (by kernel_rfl) (by kernel_rfl) (by kernel_rfl) (by exact fun _ _ _ h => h) (Or.inl ⟨by kernel_rfl, ?_⟩) hS0 ?_; rotate_left 1; focus (intro w hSw; unfold KfS at hSw; (try dsimp only at hSw); go_simp; try with_reducible rfl); (try simp only [List.getElem_toArray, List.getElem_cons_zero, List.getElem_cons_succ, Act.put, List.setIfInBounds_toArray, List.set_cons_zero, List.set_cons_succ])); (refine wpAnyT_take (i := 12) (v := ?_) rfl (by kernel_rfl) (by kernel_rfl) (by kernel_rfl) (by kernel_rfl) (by exact fun _ _ _ h => h) (Or.inl ⟨by kernel_rfl, ?_⟩) hS0 ?_; rotate_left 1; focus (intro w hSw; unfold KfS at hSw; (try dsimp only at hSw); go_simp; try with_reducible rfl); (try simp only [List.getElem_toArray, List.getElem_cons_zero, List.getElem_cons_succ, Act.put, List.setIfInBounds_toArray, List.set_cons_zero, List.set_cons_succ])); (refine wpAnyT_take (i := 13) (v := ?_) rfl (by kernel_rfl) (by kernel_rfl) (by kernel_rfl) (by kernel_rfl) (by exact fun _ _ _ h => h) (Or.inl ⟨by kernel_rfl, ?_⟩) hS0 ?_; rotate_left 1; focus (intro w hSw; unfold KfS at hSw; (try dsimp only at hSw); go_simp; try with_reducible rfl); (try simp only [List.getElem_toArray, List.getElem_cons_zero, List.getElem_cons_succ, Act.put, List.setIfInBounds_toArray, List.set_cons_zero, List.set_cons_succ])); (refine wpAnyT_take (i := 14) (v := ?_) rfl (by kernel_rfl) (by kernel_rfl) (by kernel_rfl) (by kernel_rfl) (by exact fun _ _ _ h => h) (Or.inl ⟨by kernel_rfl, ?_⟩) hS0 ?_; rotate_left 1; focus (intro w hSw; unfold KfS at hSw; (try dsimp only at hSw); go_simp; try with_reducible rfl); (try simp only [List.getElem_toArray, List.getElem_cons_zero, List.getElem_cons_succ, Act.put, List.setIfInBounds_toArray, List.set_cons_zero, List.set_cons_succ])); (refine wpAnyT_take (i := 15) (v := ?_) rfl (by kernel_rfl) (by kernel_rfl) (by kernel_rfl) (by kernel_rfl) (by exact fun _ _ _ h => h) (Or.inl ⟨by kernel_rfl, ?_⟩) hS0 ?_; rotate_left 1; focus (intro w hSw; unfold KfS at hSw; (try dsimp only at hSw); go_simp; try with_reducible rfl); (try simp only [List.getElem_toArray, List.getElem_cons_zero, List.getElem_cons_succ, Act.put, List.setIfInBounds_toArray, List.set_cons_zero, List.set_cons_succ])); (refine wpAnyT_take (i := 16) (v := ?_) rfl (by kernel_rfl) (by kernel_rfl) (by kernel_rfl) (by kernel_rfl) (by exact fun _ _ _ h => h) (Or.inl ⟨by kernel_rfl, ?_⟩) hS0 ?_; rotate_left 1; focus (intro w hSw; unfold KfS at hSw; (try dsimp only at hSw); go_simp; try with_reducible rfl); (try simp only [List.getElem_toArray, List.getElem_cons_zero, List.getElem_cons_succ, Act.put, List.setIfInBounds_toArray, List.set_cons_zero, List.set_cons_succ])); (refine wpAnyT_take (i := 17) (v := ?_) rfl (by kernel_rfl) (by kernel_rfl) (by kernel_rfl) (by kernel_rfl) (by exact fun _ _ _ h => h) (Or.inl ⟨by kernel_rfl, ?_⟩) hS0 ?_; rotate_left 1; focus (intro w hSw; unfold KfS at hSw; (try dsimp only at hSw); go_simp; try with_reducible rfl); (try simp only [List.getElem_toArray, List.getElem_cons_zero, List.getElem_cons_succ, Act.put, List.setIfInBounds_toArray, List.set_cons_zero, List.set_cons_succ])); (refine wpAnyT_take (i := 18) (v := ?_) rfl (by kernel_rfl) (by kernel_rfl) (by kernel_rfl) (by kernel_rfl) (by exact fun _ _ _ h => h) (Or.inl ⟨by kernel_rfl, ?_⟩) hS0 ?_; rotate_left 1; focus (intro w hSw; unfold KfS at hSw; (try dsimp only at hSw); go_simp; try with_reducible rfl); (try simp only [List.getElem_toArray, List.getElem_cons_zero, List.getElem_cons_succ, Act.put, List.setIfInBounds_toArray, List.set_cons_zero, List.set_cons_succ])); (refine wpAnyT_take (i := 19) (v := ?_) rfl (by kernel_rfl) (by kernel_rfl) (by kernel_rfl) (by kernel_rfl) (by exact fun _ _ _ h => h) (Or.inl ⟨by kernel_rfl, ?_⟩) hS0 ?_; rotate_left 1; focus (intro w hSw; unfold KfS at hSw; (try dsimp only at hSw); go_simp; try with_reducible rfl); (try simp only [List.getElem_toArray, List.getElem_cons_zero, List.getElem_cons_succ, Act.put, List.setIfInBounds_toArray, List.set_cons_zero, List.set_cons_succ])); (refine wpAnyT_take (i := 20) (v := ?_) rfl (by kernel_rfl) (by kernel_rfl) (by kernel_rfl) (by kernel_rfl) (by exact fun _ _ _ h => h) (Or.inl ⟨by kernel_rfl, ?_⟩) hS0 ?_; rotate_left 1; focus (intro w hSw; unfold KfS at hSw; (try dsimp only at hSw); go_simp; try with_reducible rfl); (try simp only [List.getElem_toArray, List.getElem_cons_zero, List.getElem_cons_succ, Act.put, List.setIfInBounds_toArray, List.set_cons_zero, List.set_cons_succ])); (refine wpAnyT_take (i := 21) (v := ?_) rfl (by kernel_rfl) (by kernel_rfl) (by kernel_rfl) (by kernel_rfl) (by exact fun _ _ _ h => h) (Or.inl ⟨by kernel_rfl, ?_⟩) hS0 ?_; rotate_left 1; focus (intro w hSw; unfold KfS at hSw; (try dsimp only at hSw); go_simp; try with_reducible rfl); (try simp only [List.getElem_toArray, List.getElem_cons_zero, List.getElem_cons_succ, Act.put, List.setIfInBounds_toArray, List.set_cons_zero, List.set_cons_succ])); (refine wpAnyT_take (i := 22) (v := ?_) rfl (by kernel_rfl) (by kernel_rfl) (by kernel_rfl) (by kernel_rfl) (by exact fun _ _ _ h => h) (Or.inl ⟨by kernel_rfl, ?_⟩) hS0 ?_; rotate_left 1; focus (intro w hSw; unfold KfS at hSw; (try dsimp only at hSw); go_simp; try with_reducible rfl); (try simp only [List.getElem_toArray, List.getElem_cons_zero, List.getElem_cons_succ, Act.put, List.setIfInBounds_toArray, List.set_cons_zero, List.set_cons_succ])); (refine wpAnyT_take (i := 23) (v := ?_) rfl (by kernel_rfl) (by kernel_rfl) (by kernel_rfl) (by kernel_rfl) (by exact fun _ _ _ h => h) (Or.inl ⟨by kernel_rfl, ?_⟩) hS0 ?_; rotate_left 1; focus (intro w hSw; unfold KfS at hSw; (try dsimp only at hSw); go_simp; try with_reducible rfl); (try simp only [List.getElem_toArray, List.getElem_cons_zero, List.getElem_cons_succ, Act.put, List.setIfInBounds_toArray, List.set_cons_zero, List.set_cons_succ])); (refine wpAnyT_take (i := 24) (v := ?_) rfl (by kernel_rfl) (by kernel_rfl) (by kernel_rfl) (by kernel_rfl) (by exact fun _ _ _ h => h) (Or.inl ⟨by kernel_rfl, ?_⟩) hS0 ?_; rotate_left 1; focus (intro w hSw; unfold KfS at hSw; (try dsimp only at hSw); go_simp; try with_reducible rfl); (try simp only [List.getElem_toArray, List.getElem_cons_zero, List.getElem_cons_succ, Act.put, List.setIfInBounds_toArray, List.set_cons_zero, List.set_cons_succ])); (refine wpAnyT_take (i := 25) (v := ?_) rfl (by kernel_rfl) (by kernel_rfl) (by kernel_rfl) (by kernel_rfl) (by exact fun _ _ _ h => h) (Or.inl ⟨by kernel_rfl, ?_⟩) hS0 ?_; rotate_left 1; focus (intro w hSw; unfold KfS at hSw; (try dsimp only at hSw); go_simp; try with_reducible rfl); (try simp only [List.getElem_toArray, List.getElem_cons_zero, List.getElem_cons_succ, Act.put, List.setIfInBounds_toArray, List.set_cons_zero, List.set_cons_succ])); (refine wpAnyT_take (i := 26) (v := ?_) rfl (by kernel_rfl) (by kernel_rfl) (by kernel_rfl) (by kernel_rfl) (by exact fun _ _ _ h => h) (Or.inl ⟨by kernel_rfl, ?_⟩) hS0 ?_; rotate_left 1; focus (intro w hSw; unfold KfS at hSw; (try dsimp only at hSw); go_simp; try with_reducible rfl); (try simp only [List.getElem_toArray, List.getElem_cons_zero, List.getElem_cons_succ, Act.put, List.setIfInBounds_toArray, List.set_cons_zero, List.set_cons_succ])); (refine wpAnyT_take (i := 27) (v := ?_) rfl (by kernel_rfl) (by kernel_rfl) (by kernel_rfl) (by kernel_rfl) (by exact fun _ _ _ h => h) (Or.inl ⟨by kernel_rfl, ?_⟩) hS0 ?_; rotate_left 1; focus (intro w hSw; unfold KfS at hSw; (try dsimp only at hSw); go_simp; try with_reducible rfl); (try simp only [List.getElem_toArray, List.getElem_cons_zero, List.getElem_cons_succ, Act.put, List.setIfInBounds_toArray, List.set_cons_zero, List.set_cons_succ])); (refine wpAnyT_take (i := 28) (v := ?_) rfl (by kernel_rfl) (by kernel_rfl) (by kernel_rfl) (by kernel_rfl) (by exact fun _ _ _ h => h) (Or.inl ⟨by kernel_rfl, ?_⟩) hS0 ?_; rotate_left 1; focus (intro w hSw; unfold KfS at hSw; (try dsimp only at hSw); go_simp; try with_reducible rfl); (try simp only [List.getElem_toArray, List.getElem_cons_zero, List.getElem_cons_succ, Act.put, List.setIfInBounds_toArray, List.set_cons_zero, List.set_cons_succ])); (refine wpAnyT_take (i := 29) (v := ?_) rfl (by kernel_rfl) (by kernel_rfl) (by kernel_rfl) (by kernel_rfl) (by exact fun _ _ _ h => h) (Or.inl ⟨by kernel_rfl, ?_⟩) hS0 ?_; rotate_left 1; focus (intro w hSw; unfold KfS at hSw; (try dsimp only at hSw); go_simp; try with_reducible rfl); (try simp only [List.getElem_toArray, List.getElem_cons_zero, List.getElem_cons_succ, Act.put, List.setIfInBounds_toArray, List.set_cons_zero, List.set_cons_succ])); (refine wpAnyT_take (i := 30) (v := ?_) rfl (by kernel_rfl) (by kernel_rfl) (by kernel_rfl) (by kernel_rfl) (by exact fun _ _ _ h => h) (Or.inl ⟨by kernel_rfl, ?_⟩) hS0 ?_; rotate_left 1; focus (intro w hSw; unfold KfS at hSw; (try dsimp only at hSw); go_simp; try with_reducible rfl); (try simp only [List.getElem_toArray, List.getElem_cons_zero, List.getElem_cons_succ, Act.put, List.setIfInBounds_toArray, List.set_cons_zero, List.set_cons_succ])); (refine wpAnyT_take (i := 31) (v := ?_) rfl (by kernel_rfl) (by kernel_rfl) (by kernel_rfl) (by kernel_rfl) (by exact fun _ _ _ h => h) (Or.inl ⟨by kernel_rfl, ?_⟩) hS0 ?_; rotate_left 1; focus (intro w hSw; unfold KfS at hSw; (try dsimp only at hSw); go_simp; try with_reducible rfl); (try simp only [List.getElem_toArray, List.getElem_cons_zero, List.getElem_cons_succ, Act.put, List.setIfInBounds_toArray, List.set_cons_zero, List.set_cons_succ])); (refine wpAnyT_take (i := 32) (v := ?_) rfl (by kernel_rfl) (by kernel_rfl) (by kernel_rfl) (by kernel_rfl) (by exact fun _ _ _ h => h) (Or.inl ⟨by kernel_rfl, ?_⟩) hS0 ?_; rotate_left 1; focus (intro w hSw; unfold KfS at hSw; (try dsimp only at hSw); go_simp; try with_reducible rfl); (try simp only [List.getElem_toArray, List.getElem_cons_zero, List.getElem_cons_succ, Act.put, List.setIfInBounds_toArray, List.set_cons_zero, List.set_cons_succ])); (refine wpAnyT_take (i := 33) (v := ?_) rfl (by kernel_rfl) (by kernel_rfl) (by kernel_rfl) (by kernel_rfl) (by exact fun _ _ _ h => h) (Or.inl ⟨by kernel_rfl, ?_⟩) hS0 ?_; rotate_left 1; focus (intro w hSw; unfold KfS at hSw; (try dsimp only at hSw); go_simp; try with_reducible rfl); (try simp only [List.getElem_toArray, List.getElem_cons_zero, List.getElem_cons_succ, Act.put, List.setIfInBounds_toArray, List.set_cons_zero, List.set_cons_succ])); (refine wpAnyT_take (i := 34) (v := ?_) rfl (by kernel_rfl) (by kernel_rfl) (by kernel_rfl) (by kernel_rfl) (by exact fun _ _ _ h => h) (Or.inl ⟨by kernel_rfl, ?_⟩) hS0 ?_; rotate_left 1; focus (intro w hSw; unfold KfS at hSw; (try dsimp only at hSw); go_simp; try with_reducible rfl); (try simp only [List.getElem_toArray, List.getElem_cons_zero, List.getElem_cons_succ, Act.put, List.setIfInBounds_toArray, List.set_cons_zero, List.set_cons_succ])); (refine wpAnyT_take (i := 35) (v := ?_) rfl (by kernel_rfl) (by kernel_rfl) (by kernel_rfl) (by kernel_rfl) (by exact fun _ _ _ h => h) (Or.inl ⟨by kernel_rfl, ?_⟩) hS0 ?_; rotate_left 1; focus (intro w hSw; unfold KfS at hSw; (try dsimp only at hSw); go_simp; try with_reducible rfl); (try simp only [List.getElem_toArray, List.getElem_cons_zero, List.getElem_cons_succ, Act.put, List.setIfInBounds_toArray, List.set_cons_zero, List.set_cons_succ])); (refine wpAnyT_take (i := 36) (v := ?_) rfl (by kernel_rfl) (by kernel_rfl) (by kernel_rfl) (by kernel_rfl) (by exact fun _ _ _ h => h) (Or.inl ⟨by kernel_rfl, ?_⟩) hS0 ?_; rotate_left 1; focus (intro w hSw; unfold KfS at hSw; (try dsimp only at hSw); go_simp; try with_reducible rfl); (try simp only [List.getElem_toArray, List.getElem_cons_zero, List.getElem_cons_succ, Act.put, List.setIfInBounds_toArray, List.set_cons_zero, List.set_cons_succ])); (refine wpAnyT_take (i := 37) (v := ?_) rfl (by kernel_rfl) (by kernel_rfl) (by kernel_rfl) (by kernel_rfl) (by exact fun _ _ _ h => h) (Or.inl ⟨by kernel_rfl, ?_⟩) hS0 ?_; rotate_left 1; focus (intro w hSw; unfold KfS at hSw; (try dsimp only at hSw); go_simp; try with_reducible rfl); (try simp only [List.getElem_toArray, List.getElem_cons_zero, List.getElem_cons_succ, Act.put, List.setIfInBounds_toArray, List.set_cons_zero, List.set_cons_succ])); (refine wpAnyT_take (i := 38) (v := ?_) rfl (by kernel_rfl) (by kernel_rfl) (by kernel_rfl) (by kernel_rfl) (by exact fun _ _ _ h => h) (Or.inl ⟨by kernel_rfl, ?_⟩) hS0 ?_; rotate_left 1; focus (intro w hSw; unfold KfS at hSw; (try dsimp only at hSw); go_simp; try with_reducible rfl); (try simp only [List.getElem_toArray, List.getElem_cons_zero, List.getElem_cons_succ, Act.put, List.setIfInBounds_toArray, List.set_cons_zero, List.set_cons_succ])); (refine wpAnyT_take (i := 39) (v := ?_) rfl (by kernel_rfl) (by kernel_rfl) (by kernel_rfl) (by kernel_rfl) (by exact fun _ _ _ h => h) (Or.inl ⟨by kernel_rfl, ?_⟩) hS0 ?_; rotate_left 1; focus (intro w hSw; unfold KfS at hSw; (try dsimp only at hSw); go_simp; try with_reducible rfl); (try simp only [List.getElem_toArray, List.getElem_cons_zero, List.getElem_cons_succ, Act.put, List.setIfInBounds_toArray, List.set_cons_zero, List.set_cons_succ])); (refine wpAnyT_take (i := 40) (v := ?_) rfl (by kernel_rfl) (by kernel_rfl) (by kernel_rfl) (by kernel_rfl) (by exact fun _ _ _ h => h) (Or.inl ⟨by kernel_rfl, ?_⟩) hS0 ?_; rotate_left 1; focus (intro w hSw; unfold KfS at hSw; (try dsimp only at hSw); go_simp; try with_reducible rfl); (try simp only [List.getElem_toArray, List.getElem_cons_zero, List.getElem_cons_succ, Act.put, List.setIfInBounds_toArray, List.set_cons_zero, List.set_cons_succ])))
    refine wpAnyT_one (i := 41) (by kernel_rfl) rfl (fun K hK => ?_)
    go_simp
    refine (hsm.out _ _ _ _ (hr15.out.later (Below.refl _ _).drew) (hrd.out.later (Below.refl _ _).drew)).mono ?_
    rintro e wE ⟨rfl, hE⟩
    have E1 := hid ((Below.refl wD.heap.size wD).drew.step hE)
    clear hE hS0
    have hS1 := hS.out _ E1.out
    (refine hK.out _ _ (fun _ => hS1) (fun _ => ?_); clear hK K; (try simp only [Act.put, List.setIfInBounds_toArray, List.set_cons_zero, List.set_cons_succ]))
    ((refine wpAnyT_take (i := 42) (v := ?_) rfl (by kernel_rfl) (by kernel_rfl) (by kernel_rfl) (by kernel_rfl) (by exact fun _ _ _ h => h) (Or.inl ⟨by kernel_rfl, ?_⟩) hS1 ?_; rotate_left 1; focus (intro w hSw; unfold KfS at hSw; (try dsimp only at hSw); go_simp; try with_reducible rfl); (try simp only [List.getElem_toArray, List.getElem_cons_zero, List.getElem_cons_succ, Act.put, List.setIfInBounds_toArray, List.set_cons_zero, List.set_cons_succ])); (refine wpAnyT_take (i := 43) (v := ?_) rfl (by kernel_rfl) (by kernel_rfl) (by kernel_rfl) (by kernel_rfl) (by exact fun _ _ _ h => h) (Or.inl ⟨by kernel_rfl, ?_⟩) hS1 ?_; rotate_left 1; focus (intro w hSw; unfold KfS at hSw; (try dsimp only at hSw); go_simp; try with_reducible rfl); (try simp only [List.getElem_toArray, List.getElem_cons_zero, List.getElem_cons_succ, Act.put, List.setIfInBounds_toArray, List.set_cons_zero, List.set_cons_succ])); (refine wpAnyT_take (i := 44) (v := ?_) rfl (by kernel_rfl) (by kernel_rfl) (by kernel_rfl) (by kernel_rfl) (by exact fun _ _ _ h => h) (Or.inl ⟨by kernel_rfl, ?_⟩) hS1 ?_; rotate_left 1; focus (intro w hSw; unfold KfS at hSw; (try dsimp only at hSw); go_simp; try with_reducible rfl); (try simp only [List.getElem_toArray, List.getElem_cons_zero, List.getElem_cons_succ, Act.put, List.setIfInBounds_toArray, List.set_cons_zero, List.set_cons_succ])); (refine wpAnyT_take (i := 45) (v := ?_) rfl (by kernel_rfl) (by kernel_rfl) (by kernel_rfl) (by kernel_rfl) (by exact fun _ _ _ h => h) (Or.inl ⟨by kernel_rfl, ?_⟩) hS1 ?_; rotate_left 1; focus (intro w hSw; unfold KfS at hSw; (try dsimp only at hSw); go_simp; try with_reducible rfl); (try simp only [List.getElem_toArray, List.getElem_cons_zero, List.getElem_cons_succ, Act.put, List.setIfInBounds_toArray, List.set_cons_zero, List.set_cons_succ])); (refine wpAnyT_take (i := 46) (v := ?_) rfl (by kernel_rfl) (by kernel_rfl) (by kernel_rfl) (by kernel_rfl) (by exact fun _ _ _ h => h) (Or.inl ⟨by kernel_rfl, ?_⟩) hS1 ?_; rotate_left 1; focus (intro w hSw; unfold KfS at hSw; (try dsimp only at hSw); go_simp; try with_reducible rfl); (try simp only [List.getElem_toArray, List.getElem_cons_zero, List.getElem_cons_succ, Act.put, List.setIfInBounds_toArray, List.set_cons_zero, List.set_cons_succ])); (refine wpAnyT_take (i := 47) (v := ?_) rfl (by kernel_rfl) (by kernel_rfl) (by kernel_rfl) (by kernel_rfl) (by exact fun _ _ _ h => h) (Or.inl ⟨by kernel_rfl, ?_⟩) hS1 ?_; rotate_left 1; focus (intro w hSw; unfold KfS at hSw; (try dsimp only at hSw); go_simp; try with_reducible rfl); (try simp only [List.getElem_toArray, List.getElem_cons_zero, List.getElem_cons_succ, Act.put, List.setIfInBounds_toArray, List.set_cons_zero, List.set_cons_succ])); (refine wpAnyT_take (i := 48) (v := ?_) rfl (by kernel_rfl) (by kernel_rfl) (by kernel_rfl) (by kernel_rfl) (by exact fun _ _ _ h => h) (Or.inl ⟨by kernel_rfl, ?_⟩) hS1 ?_; rotate_left 1; focus (intro w hSw; unfold KfS at hSw; (try dsimp only at hSw); go_simp; try with_reducible rfl); (try simp only [List.getElem_toArray, List.getElem_cons_zero, List.getElem_cons_succ, Act.put, List.setIfInBounds_toArray, List.set_cons_zero, List.set_cons_succ])); (refine wpAnyT_take (i := 49) (v := ?_) rfl (by kernel_rfl) (by kernel_rfl) (by kernel_rfl) (by kernel_rfl) (by exact fun _ _ _ h => h) (Or.inl ⟨by kernel_rfl, ?_⟩) hS1 ?_; rotate_left 1; focus (intro w hSw; unfold KfS at hSw; (try dsimp only at hSw); go_simp; try with_reducible rfl); (try simp only [List.getElem_toArray, List.getElem_cons_zero, List.getElem_cons_succ, Act.put, List.setIfInBounds_toArray, List.set_cons_zero, List.set_cons_succ])); (refine wpAnyT_take (i := 50) (v := ?_) rfl (by kernel_rfl) (by kernel_rfl) (by kernel_rfl) (by kernel_rfl) (by exact fun _ _ _ h => h) (Or.inl ⟨by kernel_rfl, ?_⟩) hS1 ?_; rotate_left 1; focus (intro w hSw; unfold KfS at hSw; (try dsimp only at hSw); go_simp; try with_reducible rfl); (try simp only [List.getElem_toArray, List.getElem_cons_zero, List.getElem_cons_succ, Act.put, List.setIfInBounds_toArray, List.set_cons_zero, List.set_cons_succ])); (refine wpAnyT_take (i := 51) (v := ?_) rfl (by kernel_rfl) (by kernel_rfl) (by kernel_rfl) (by kernel_rfl) (by exact fun _ _ _ h => h) (Or.inl ⟨by kernel_rfl, ?_⟩) hS1 ?_; rotate_left 1; focus (intro w hSw; unfold KfS at hSw; (try dsimp only at hSw); go_simp; try with_reducible rfl); (try simp only [List.getElem_toArray, List.getElem_cons_zero, List.getElem_cons_succ, Act.put, List.setIfInBounds_toArray, List.set_cons_zero, List.set_cons_succ])); (refine wpAnyT_take (i := 52) (v := ?_) rfl (by kernel_rfl) (by kernel_rfl) (by kernel_rfl) (by kernel_rfl) (by exact fun _ _ _ h => h) (Or.inl ⟨by kernel_rfl, ?_⟩) hS1 ?_; rotate_left 1; focus (intro w hSw; unfold KfS at hSw; (try dsimp only at hSw); go_simp; try with_reducible rfl); (try simp only [List.getElem_toArray, List.getElem_cons_zero, List.getElem_cons_succ, Act.put, List.setIfInBounds_toArray, List.set_cons_zero, List.set_cons_succ])); (refine wpAnyT_take (i := 53) (v := ?_) rfl (by kernel_rfl) (by kernel_rfl) (by kernel_rfl) (by kernel_rfl) (by exact fun _ _ _ h => h) (Or.inl ⟨by kernel_rfl, ?_⟩) hS1 ?_; rotate_left 1; focus (intro w hSw; unfold KfS at hSw; (try dsimp only at hSw); go_simp; try with_reducible rfl); (try simp only [List.getElem_toArray, List.getElem_cons_zero, List.getElem_cons_succ, Act.put, List.setIfInBounds_toArray, List.set_cons_zero, List.set_cons_succ])); (refine wpAnyT_take (i := 54) (v := ?_) rfl (by kernel_rfl) (by kernel_rfl) (by kernel_rfl) (by kernel_rfl) (by exact fun _ _ _ h => h) (Or.inl ⟨by kernel_rfl, ?_⟩) hS1 ?_; rotate_left 1; focus (intro w hSw; unfold KfS at hSw; (try dsimp only at hSw); go_simp; try with_reducible rfl); (try simp only [List.getElem_toArray, List.getElem_cons_zero, List.getElem_cons_succ, Act.put, List.setIfInBounds_toArray, List.set_cons_zero, List.set_cons_succ])); (refine wpAnyT_take (i := 55) (v := ?_) rfl (by kernel_rfl) (by kernel_rfl) (by kernel_rfl) (by kernel_rfl) (by exact fun _ _ _ h => h) (Or.inl ⟨by kernel_rfl, ?_⟩) hS1 ?_; rotate_left 1; focus (intro w hSw; unfold KfS at hSw; (try dsimp only at hSw); go_simp; try with_reducible rfl); (try simp only [List.getElem_toArray, List.getElem_cons_zero, List.getElem_cons_succ, Act.put, List.setIfInBounds_toArray, List.set_cons_zero, List.set_cons_succ])); (refine wpAnyT_take (i := 56) (v := ?_) rfl (by kernel_rfl) (by kernel_rfl) (by kernel_rfl) (by kernel_rfl) (by exact fun _ _ _ h => h) (Or.inl ⟨by kernel_rfl, ?_⟩) hS1 ?_; rotate_left 1; focus (intro w hSw; unfold KfS at hSw; (try dsimp only at hSw); go_simp; try with_reducible rfl); (try simp only [List.getElem_toArray, List.getElem_cons_zero, List.getElem_cons_succ, Act.put, List.setIfInBounds_toArray, List.set_cons_zero, List.set_cons_succ])); (refine wpAnyT_take (i := 57) (v := ?_) rfl (by kernel_rfl) (by kernel_rfl) (by kernel_rfl) (by kernel_rfl) (by exact fun _ _ _ h => h) (Or.inl ⟨by kernel_rfl, ?_⟩) hS1 ?_; rotate_left 1; focus (intro w hSw; unfold KfS at hSw; (try dsimp only at hSw); go_simp; try with_reducible rfl); (try simp only [List.getElem_toArray, List.getElem_cons_zero, List.getElem_cons_succ, Act.put, List.setIfInBounds_toArray, List.set_cons_zero, List.set_cons_succ])); (refine wpAnyT_take (i := 58) (v := ?_) rfl (by kernel_rfl) (by kernel_rfl) (by kernel_rfl) (by kernel_rfl) (by exact fun _ _ _ h => h) (Or.inl ⟨by kernel_rfl, ?_⟩) hS1 ?_; rotate_left 1; focus (intro w hSw; unfold KfS at hSw; (try dsimp only at hSw); go_simp; try with_reducible rfl); (try simp only [List.getElem_toArray, List.getElem_cons_zero, List.getElem_cons_succ, Act.put, List.setIfInBounds_toArray, List.set_cons_zero, List.set_cons_succ])); (refine wpAnyT_take (i := 59) (v := ?_) rfl (by kernel_rfl) (by kernel_rfl) (by kernel_rfl) (by kernel_rfl) (by exact fun _ _ _ h => h) (Or.inl ⟨by kernel_rfl, ?_⟩) hS1 ?_; rotate_left 1; focus (intro w hSw; unfold KfS at hSw; (try dsimp only at hSw); go_simp; try with_reducible rfl); (try simp only [List.getElem_toArray, List.getElem_cons_zero, List.getElem_cons_succ, Act.put, List.setIfInBounds_toArray, List.set_cons_zero, List.set_cons_succ])); (refine wpAnyT_take (i := 60) (v := ?_) rfl (by kernel_rfl) (by kernel_rfl) (by kernel_rfl) (by kernel_rfl) (by exact fun _ _ _ h => h) (Or.inl ⟨by kernel_rfl, ?_⟩) hS1 ?_; rotate_left 1; focus (intro w hSw; unfold KfS at hSw; (try dsimp only at hSw); go_simp; try with_reducible rfl); (try simp only [List.getElem_toArray, List.getElem_cons_zero, List.getElem_cons_succ, Act.put, List.setIfInBounds_toArray, List.set_cons_zero, List.set_cons_succ])); (refine wpAnyT_take (i := 61) (v := ?_) rfl (by kernel_rfl) (by kernel_rfl) (by kernel_rfl) (by kernel_rfl) (by exact fun _ _ _ h => h) (Or.inl ⟨by kernel_rfl, ?_⟩) hS1 ?_; rotate_left 1; focus (intro w hSw; unfold KfS at hSw; (try dsimp only at hSw); go_simp; try with_reducible rfl); (try simp only [List.getElem_toArray, List.getElem_cons_zero, List.getElem_cons_succ, Act.put, List.setIfInBounds_toArray, List.set_cons_zero, List.set_cons_succ])); (refine wpAnyT_take (i := 62) (v := ?_) rfl (by kernel_rfl) (by kernel_rfl) (by kernel_rfl) (by kernel_rfl) (by exact fun _ _ _ h => h) (Or.inl ⟨by kernel_rfl, ?_⟩) hS1 ?_; rotate_left 1; focus (intro w hSw; unfold KfS at hSw; (try dsimp only at hSw); go_simp; try with_reducible rfl); (try simp only [List.getElem_toArray, List.getElem_cons_zero, List.getElem_cons_succ, Act.put, List.setIfInBounds_toArray, List.set_cons_zero, List.set_cons_succ])); (refine wpAnyT_take (i := 63) (v := ?_) rfl (by kernel_rfl) (by kernel_rfl) (by kernel_rfl) (by kernel_rfl) (by exact fun _ _ _ h => h) (Or.inl ⟨by kernel_rfl, ?_⟩) hS1 ?_; rotate_left 1; focus (intro w hSw; unfold KfS at hSw; (try dsimp only at hSw); go_simp; try with_reducible rfl); (try simp only [List.getElem_toArray, List.getElem_cons_zero, List.getElem_cons_succ, Act.put, List.setIfInBounds_toArray, List.set_cons_zero, List.set_cons_succ])))
    refine wpAnyT_done (by kernel_rfl) ?_ _
    go_wp2_with fail
    go_ret
    exact ⟨by kernel_rfl, C.out.D.step E1.out⟩
theorem kept5_card (xs : List PVal) (hm : massL xs ≤ 1073741824) {w : World} {la : Option Addr} {lc : Nat} {bv : Value} {rs : List Int} (hT : Tabs w) (hA : RdL w (Now w) xs (.slice la xs.length lc)) (hb : NumsAt .u8 w rs bv) (hfm : bv = .slice none 0 0 ∨ ∃ ad n c, bv = .slice (some ad) n c) (hl : rs.length ≤ 33554432) :
    Calls Tryd.prog 10 #[.slice la xs.length lc, bv] w fun e w' => e = .returned (.bool true) ∧ Below w.heap.size w w' := by
  obtain ⟨l, h1, h2⟩ := bytes_of_nums hb
  exact kept5_calls xs hm hT hA h1 hfm (by omega)
end Go.Proofs.YtihcegakghmdfaaDoor
