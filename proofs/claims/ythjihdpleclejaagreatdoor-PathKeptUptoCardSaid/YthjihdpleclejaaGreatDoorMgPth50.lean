/-
  Memory: what is still read behind stores of flat values into rows. No condition.
  Memory: a flat value stored into a row of values, or of fields. No condition.
  The law's spoil at work: what stays, what is still read. No condition.
  Walk: the law's spoil. No condition.
-/
import Derived.Test.YthjihdpleclejaaGreatDoorMgPth40
import Derived.Test.YthjihdpleclejaaGreatDoorMgVal12
namespace Go.Proofs.YthjihdpleclejaaGreatDoor
open Go.RowKit Go.Proofs
def FlatC (cs : List Value) : Prop := ∃ k n s, cs = flatCs k n s ∧ I64 k ∧ I64 n ∧ s.size ≤ 140737488355328
structure Spoilt (S : Nat → Prop) (w w' : World) : Prop where
  val : ∀ (b q : Nat) (k n : Int) (s : ByteArray) (la : Option Addr) (ln lc : Nat) (fa : Option Addr) (fl fc : Nat), S b → (∀ j v, [Value.int .i64 k, .int .i64 n, .string s, .slice la ln lc, .slice fa fl fc][j]? = some v → w.cell? ⟨b, q + j, none⟩ = some v) →
    (∀ j v, [Value.int .i64 k, .int .i64 n, .string s, .slice la ln lc, .slice fa fl fc][j]? = some v → w'.cell? ⟨b, q + j, none⟩ = some v) ∨ ∃ cs, FlatC cs ∧ ∀ j v, cs[j]? = some v → w'.cell? ⟨b, q + j, none⟩ = some v
  fld : ∀ (b q : Nat) (nm : ByteArray) (k n : Int) (s : ByteArray) (la : Option Addr) (ln lc : Nat) (fa : Option Addr) (fl fc : Nat), S b → nm.size ≤ 140737488355328 → (∀ j v, [Value.string nm, .int .i64 k, .int .i64 n, .string s, .slice la ln lc, .slice fa fl fc][j]? = some v → w.cell? ⟨b, q + j, none⟩ = some v) →
    ∃ nm' cs, nm'.size ≤ 140737488355328 ∧ (cs = [Value.int .i64 k, .int .i64 n, .string s, .slice la ln lc, .slice fa fl fc] ∨ FlatC cs) ∧ ∀ j v, (Value.string nm' :: cs)[j]? = some v → w'.cell? ⟨b, q + j, none⟩ = some v
theorem nodesL_le : ∀ {a b : List PVal}, a.length = b.length → (∀ (i : Nat) x y, a[i]? = some x → b[i]? = some y → x.nodes ≤ y.nodes) → nodesL a ≤ nodesL b
 | [], [], _, _ => Nat.le_refl _
 | [], _ :: _, h, _ => by simp at h
 | _ :: _, [], h, _ => by simp at h
 | x :: r, y :: t, h, hp => by
  have h1 := hp 0 x y rfl rfl
  have ih := nodesL_le (a := r) (b := t) (by simpa using h) (fun i u v hu hv => hp (i + 1) u v (by simpa using hu) (by simpa using hv))
  simp only [nodesL]; omega
theorem flat_reads {w : World} {S : Nat → Prop} {cs : List Value} (h : FlatC cs) : ∃ V, V.nodes = 1 ∧ Rd w S V cs := by
 obtain ⟨k, n, s, rfl, hk, hn, hs⟩ := h
 exact ⟨.mk k n s [] [] [], by simp [PVal.nodes, nodesL], rd_flat w S hk hn hs⟩
theorem list_upto {α : Type} (n : Nat) (P : Nat → α → Prop) (h : ∀ i, i < n → ∃ y, P i y) : ∃ l : List α, l.length = n ∧ ∀ i y, l[i]? = some y → P i y := by
 induction n with
 | zero => exact ⟨[], rfl, fun i y hy => by simp at hy⟩
 | succ n ih =>
  obtain ⟨l, h1, h2⟩ := ih (fun i hi => h i (by omega))
  obtain ⟨y, hy⟩ := h n (by omega)
  refine ⟨l ++ [y], by simp [h1], fun i z hz => ?_⟩
  rw [List.getElem?_append] at hz
  split at hz
  ·exact h2 i z hz
  ·rename_i hi
   have hi2 : i = n := by
    have := (List.getElem?_eq_some_iff.1 hz).1
    simp at this
    omega
   subst hi2
   rw [h1, Nat.sub_self] at hz
   obtain rfl : y = z := by simpa using hz
   exact hy
theorem spoilt_reads {S : Nat → Prop} {w w' : World} (hsp : Spoilt S w w') {V : PVal} {cs : List Value} (h : Rd w S V cs) : ∃ V', V'.nodes ≤ V.nodes ∧ Rd w' S V' cs := by
 induction h with
 | @mk k n s l fn fv la fa lc fc lcs fcs hk hn hs hfs hlen hlc hlm hfc hfm hl hlr hf hfr ihl ihf =>
  -- the List's parts
  have hL : ∃ (l' : List (PVal × List Value)), l'.length = l.length ∧ (∀ i y, l'[i]? = some y → (∃ x, l[i]? = some x ∧ y.1.nodes ≤ x.nodes) ∧ Rd w' S y.1 y.2 ∧ ∀ b off, la = some ⟨b, off, none⟩ → S b → (∀ i, i < l.length → ∀ j v, (lcs i)[j]? = some v → w.cell? ⟨b, off + i * 5 + j, none⟩ = some v) → ∀ j v, y.2[j]? = some v → w'.cell? ⟨b, off + i * 5 + j, none⟩ = some v) := by
   rcases hl with h0 | ⟨b, off, rfl, hb, hc⟩
   ·obtain rfl : l = [] := List.length_eq_zero_iff.1 h0
    exact ⟨[], rfl, fun i y hy => by simp at hy⟩
   ·refine list_upto l.length _ (fun i hi => ?_)
    obtain ⟨x, hx⟩ : ∃ x, l[i]? = some x := ⟨_, List.getElem?_eq_getElem hi⟩
    obtain ⟨ek, en, es, ela, eln, elc, efa, efl, efc, e5⟩ := (hlr i x hx).five
    rcases hsp.val b (off + i * 5) ek en es ela eln elc efa efl efc hb (fun j v hv => hc i hi j v (by rw [e5]; exact hv)) with hsame | ⟨ds, hd, hdc⟩
    ·obtain ⟨y, hy1, hy2⟩ := ihl i x hx
     refine ⟨(y, lcs i), ⟨x, hx, hy1⟩, hy2, fun b' off' he _ _ j v hv => ?_⟩
     injection he with he
     injection he with he1 he2
     subst he1 he2
     rw [e5] at hv
     exact hsame j v hv
    ·obtain ⟨y, hy1, hy2⟩ := flat_reads (w := w') (S := S) hd
     refine ⟨(y, ds), ⟨x, hx, by have := nodes_pos x; show y.nodes ≤ _; omega⟩, hy2, fun b' off' he _ _ j v hv => ?_⟩
     injection he with he
     injection he with he1 he2
     subst he1 he2
     exact hdc j v hv
  have hF : ∃ (f' : List ((ByteArray × PVal) × List Value)), f'.length = fv.length ∧ (∀ i y, f'[i]? = some y → (∃ x, fv[i]? = some x ∧ y.1.2.nodes ≤ x.nodes) ∧ y.1.1.size ≤ 140737488355328 ∧ Rd w' S y.1.2 y.2 ∧ ∀ b off, fa = some ⟨b, off, none⟩ → S b → ∀ j v, (Value.string y.1.1 :: y.2)[j]? = some v → w'.cell? ⟨b, off + i * 6 + j, none⟩ = some v) := by
   rcases hf with h0 | ⟨b, off, rfl, hb, hc⟩
   ·obtain rfl : fv = [] := List.length_eq_zero_iff.1 h0
    exact ⟨[], rfl, fun i y hy => by simp at hy⟩
   ·refine list_upto fv.length _ (fun i hi => ?_)
    obtain ⟨x, hx⟩ : ∃ x, fv[i]? = some x := ⟨_, List.getElem?_eq_getElem hi⟩
    obtain ⟨nm, hnm⟩ : ∃ nm, fn[i]? = some nm := ⟨_, List.getElem?_eq_getElem (by omega)⟩
    have hgd : fn.getD i ByteArray.empty = nm := by rw [List.getD_eq_getElem?_getD, hnm]; rfl
    obtain ⟨ek, en, es, ela, eln, elc, efa, efl, efc, e5⟩ := (hfr i x hx).five
    obtain ⟨nm', ds, hz, hd, hdc⟩ := hsp.fld b (off + i * 6) nm ek en es ela eln elc efa efl efc hb (hfs nm (List.mem_of_getElem? hnm)) (fun j v hv => hc i hi j v (by simp only [hgd, e5]; exact hv))
    rcases hd with rfl | hd
    ·obtain ⟨y, hy1, hy2⟩ := ihf i x hx
     rw [e5] at hy2
     refine ⟨((nm', y), _), ⟨x, hx, hy1⟩, hz, hy2, fun b' off' he _ j v hv => ?_⟩
     injection he with he
     injection he with he1 he2
     subst he1 he2
     exact hdc j v hv
    ·obtain ⟨y, hy1, hy2⟩ := flat_reads (w := w') (S := S) hd
     refine ⟨((nm', y), ds), ⟨x, hx, by have := nodes_pos x; show y.nodes ≤ _; omega⟩, hz, hy2, fun b' off' he _ j v hv => ?_⟩
     injection he with he
     injection he with he1 he2
     subst he1 he2
     exact hdc j v hv
  obtain ⟨l', hl1, hl2⟩ := hL
  obtain ⟨f', hf1, hf2⟩ := hF
  have hat : ∀ (i : Nat) x, (l'.map Prod.fst)[i]? = some x → ∃ y, l'[i]? = some y ∧ y.1 = x := fun i x hx => by
   rw [List.getElem?_map] at hx
   obtain ⟨y, hy, rfl⟩ := Option.map_eq_some_iff.1 hx
   exact ⟨y, hy, rfl⟩
  have hatf : ∀ (i : Nat) x, (f'.map fun y => y.1.2)[i]? = some x → ∃ y, f'[i]? = some y ∧ y.1.2 = x := fun i x hx => by
   rw [List.getElem?_map] at hx
   obtain ⟨y, hy, rfl⟩ := Option.map_eq_some_iff.1 hx
   exact ⟨y, hy, rfl⟩
  refine ⟨.mk k n s (l'.map Prod.fst) (f'.map fun y => y.1.1) (f'.map fun y => y.1.2), ?_, rd_mk hk hn hs ⟨la, lc, fun i => (l'.map Prod.snd).getD i [], by simp [hl1], by simpa [hl1] using hlc, by simpa [hl1] using hlm, ?_, fun i x hx => ?_⟩ ⟨by simp, fun nm hnm => ?_, fa, fc, fun i => (f'.map Prod.snd).getD i [], by simp [hf1], by simpa [hf1] using hfc, by simpa [hf1] using hfm, ?_, fun i x hx => ?_⟩⟩
  ·have h1 : nodesL (l'.map Prod.fst) ≤ nodesL l := nodesL_le (by simp [hl1]) (fun i x y hx hy => by
    obtain ⟨z, hz, rfl⟩ := hat i x hx
    obtain ⟨⟨u, hu, hle⟩, _⟩ := hl2 i z hz
    rw [hy] at hu
    obtain rfl := Option.some.inj hu
    exact hle)
   have h2 : nodesL (f'.map fun y => y.1.2) ≤ nodesL fv := nodesL_le (by simp [hf1]) (fun i x y hx hy => by
    obtain ⟨z, hz, rfl⟩ := hatf i x hx
    obtain ⟨⟨u, hu, hle⟩, _⟩ := hf2 i z hz
    rw [hy] at hu
    obtain rfl := Option.some.inj hu
    exact hle)
   simp only [PVal.nodes]; omega
  ·rcases hl with h0 | ⟨b, off, hla, hb, hc⟩
   ·exact .inl (by simp [hl1, h0])
   ·refine .inr ⟨b, off, hla, hb, fun i hi j v hv => ?_⟩
    obtain ⟨y, hy⟩ : ∃ y, l'[i]? = some y := ⟨_, List.getElem?_eq_getElem (by simpa using hi)⟩
    simp only [List.getD_eq_getElem?_getD, List.getElem?_map, hy, Option.map_some, Option.getD_some] at hv
    exact (hl2 i y hy).2.2 b off hla hb hc j v hv
  ·obtain ⟨y, hy, rfl⟩ := hat i x hx
   show Rd w' S y.1 ((l'.map Prod.snd).getD i [])
   rw [List.getD_eq_getElem?_getD, List.getElem?_map, hy]
   exact (hl2 i y hy).2.1
  ·obtain ⟨y, hy, rfl⟩ := List.mem_map.1 hnm
   obtain ⟨i, hi⟩ := List.getElem?_of_mem hy
   exact (hf2 i y hi).2.1
  ·rcases hf with h0 | ⟨b, off, hfa, hb, hc⟩
   ·exact .inl (by simp [hf1, h0])
   ·refine .inr ⟨b, off, hfa, hb, fun i hi j v hv => ?_⟩
    obtain ⟨y, hy⟩ : ∃ y, f'[i]? = some y := ⟨_, List.getElem?_eq_getElem (by simpa using hi)⟩
    simp only [List.getD_eq_getElem?_getD, List.getElem?_map, hy, Option.map_some, Option.getD_some] at hv
    exact (hf2 i y hy).2.2.2 b off hfa hb j v hv
  ·obtain ⟨y, hy, rfl⟩ := hatf i x hx
   show Rd w' S y.1.2 ((f'.map Prod.snd).getD i [])
   rw [List.getD_eq_getElem?_getD, List.getElem?_map, hy]
   exact (hf2 i y hy).2.2.1
end Go.Proofs.YthjihdpleclejaaGreatDoor
namespace Go.Proofs.YthjihdpleclejaaGreatDoor
open Go.RowKit Go.Proofs
section
variable {S : Nat → Prop} {w w' : World} {g p : Nat}
theorem spoilt_val {k0 n0 : Int} {s0 : ByteArray} {la0 fa0 : Option Addr} {ln0 lc0 fl0 fc0 : Nat} {ds : List Value} (hd : FlatC ds) (hold : ∀ (j : Nat) v, [Value.int .i64 k0, .int .i64 n0, .string s0, .slice la0 ln0 lc0, .slice fa0 fl0 fc0][j]? = some v → w.cell? ⟨g, p + j, none⟩ = some v) (hk : ∀ b, b ≠ g → w'.heap[b]? = w.heap[b]?) (hin : ∀ (j : Nat) v, ds[j]? = some v → w'.cell? ⟨g, p + j, none⟩ = some v) (hout : ∀ o, o < p ∨ p + 5 ≤ o → w'.cell? ⟨g, o, none⟩ = w.cell? ⟨g, o, none⟩) : Spoilt S w w' := by
 have hcell : ∀ b o, b ≠ g → w'.cell? ⟨b, o, none⟩ = w.cell? ⟨b, o, none⟩ := fun b o hb => World.cell?_of_block (w := w) (hk b hb)
 refine ⟨fun b q k n s la ln lc fa fl fc _ hr => ?_, fun b q nm k n s la ln lc fa fl fc _ hnm hr => ?_⟩
 ·by_cases hb : b = g
  ·subst hb
   rcases (show q = p ∨ q + 5 ≤ p ∨ p + 5 ≤ q ∨ q = p + 1 ∨ q = p + 2 ∨ q = p + 3 ∨ q = p + 4 ∨ p = q + 1 ∨ p = q + 2 ∨ p = q + 3 ∨ p = q + 4 by omega) with rfl | h | h | rfl | rfl | rfl | rfl | rfl | rfl | rfl | rfl
   ·exact .inr ⟨ds, hd, hin⟩
   ·exact .inl fun j v hv => by
     have hj := (List.getElem?_eq_some_iff.1 hv).1
     simp only [List.length_cons, List.length_nil] at hj
     exact (hout _ (by omega)).trans (hr j v hv)
   ·exact .inl fun j v hv => by
     have hj := (List.getElem?_eq_some_iff.1 hv).1
     simp only [List.length_cons, List.length_nil] at hj
     exact (hout _ (by omega)).trans (hr j v hv)
   ·exact absurd ((hold 2 _ rfl).symm.trans (hr 1 _ rfl)) (by simp)
   ·exact absurd ((hold 2 _ rfl).symm.trans (hr 0 _ rfl)) (by simp)
   ·exact absurd ((hold 3 _ rfl).symm.trans (hr 0 _ rfl)) (by simp)
   ·exact absurd ((hold 4 _ rfl).symm.trans (hr 0 _ rfl)) (by simp)
   ·exact absurd ((hold 1 _ rfl).symm.trans (hr 2 _ rfl)) (by simp)
   ·exact absurd ((hold 0 _ rfl).symm.trans (hr 2 _ rfl)) (by simp)
   ·exact absurd ((hold 0 _ rfl).symm.trans (hr 3 _ rfl)) (by simp)
   ·exact absurd ((hold 0 _ rfl).symm.trans (hr 4 _ rfl)) (by simp)
  ·exact .inl fun j v hv => (hcell b _ hb).trans (hr j v hv)
 ·by_cases hb : b = g
  ·subst hb
   rcases (show q = p ∨ q + 6 ≤ p ∨ p + 5 ≤ q ∨ q = p + 1 ∨ q = p + 2 ∨ q = p + 3 ∨ q = p + 4 ∨ p = q + 1 ∨ p = q + 2 ∨ p = q + 3 ∨ p = q + 4 ∨ p = q + 5 by omega) with rfl | h | h | rfl | rfl | rfl | rfl | rfl | rfl | rfl | rfl | rfl
   ·exact absurd ((hold 0 _ rfl).symm.trans (hr 0 _ rfl)) (by simp)
   ·exact ⟨nm, _, hnm, .inl rfl, fun j v hv => by
     have hj := (List.getElem?_eq_some_iff.1 hv).1
     simp only [List.length_cons, List.length_nil] at hj
     exact (hout _ (by omega)).trans (hr j v hv)⟩
   ·exact ⟨nm, _, hnm, .inl rfl, fun j v hv => by
     have hj := (List.getElem?_eq_some_iff.1 hv).1
     simp only [List.length_cons, List.length_nil] at hj
     exact (hout _ (by omega)).trans (hr j v hv)⟩
   ·exact absurd ((hold 1 _ rfl).symm.trans (hr 0 _ rfl)) (by simp)
   ·exact absurd ((hold 3 _ rfl).symm.trans (hr 1 _ rfl)) (by simp)
   ·exact absurd ((hold 3 _ rfl).symm.trans (hr 0 _ rfl)) (by simp)
   ·exact absurd ((hold 4 _ rfl).symm.trans (hr 0 _ rfl)) (by simp)
   ·refine ⟨nm, ds, hnm, .inr hd, fun j v hv => ?_⟩
    cases j with
    | zero =>
     obtain rfl : Value.string nm = v := by simpa using hv
     exact (hout _ (by omega)).trans (hr 0 _ rfl)
    | succ j =>
     have h := hin j v (by simpa using hv)
     rwa [show q + 1 + j = q + (j + 1) by omega] at h
   ·exact absurd ((hold 1 _ rfl).symm.trans (hr 3 _ rfl)) (by simp)
   ·exact absurd ((hold 0 _ rfl).symm.trans (hr 3 _ rfl)) (by simp)
   ·exact absurd ((hold 0 _ rfl).symm.trans (hr 4 _ rfl)) (by simp)
   ·exact absurd ((hold 0 _ rfl).symm.trans (hr 5 _ rfl)) (by simp)
  ·exact ⟨nm, _, hnm, .inl rfl, fun j v hv => (hcell b _ hb).trans (hr j v hv)⟩
theorem spoilt_fld {k0 n0 : Int} {s0 : ByteArray} {la0 fa0 : Option Addr} {ln0 lc0 fl0 fc0 : Nat} {nm0 nm1 : ByteArray} (hz : nm1.size ≤ 140737488355328) {ds : List Value} (hd : FlatC ds) (hold : ∀ (j : Nat) v, [Value.string nm0, .int .i64 k0, .int .i64 n0, .string s0, .slice la0 ln0 lc0, .slice fa0 fl0 fc0][j]? = some v → w.cell? ⟨g, p + j, none⟩ = some v) (hk : ∀ b, b ≠ g → w'.heap[b]? = w.heap[b]?) (hin : ∀ (j : Nat) v, (Value.string nm1 :: ds)[j]? = some v → w'.cell? ⟨g, p + j, none⟩ = some v) (hout : ∀ o, o < p ∨ p + 6 ≤ o → w'.cell? ⟨g, o, none⟩ = w.cell? ⟨g, o, none⟩) : Spoilt S w w' := by
 have hcell : ∀ b o, b ≠ g → w'.cell? ⟨b, o, none⟩ = w.cell? ⟨b, o, none⟩ := fun b o hb => World.cell?_of_block (w := w) (hk b hb)
 refine ⟨fun b q k n s la ln lc fa fl fc _ hr => ?_, fun b q nm k n s la ln lc fa fl fc _ hnm hr => ?_⟩
 ·by_cases hb : b = g
  ·subst hb
   rcases (show q = p ∨ q + 5 ≤ p ∨ p + 6 ≤ q ∨ q = p + 1 ∨ q = p + 2 ∨ q = p + 3 ∨ q = p + 4 ∨ q = p + 5 ∨ p = q + 1 ∨ p = q + 2 ∨ p = q + 3 ∨ p = q + 4 by omega) with rfl | h | h | rfl | rfl | rfl | rfl | rfl | rfl | rfl | rfl | rfl
   ·exact absurd ((hold 0 _ rfl).symm.trans (hr 0 _ rfl)) (by simp)
   ·exact .inl fun j v hv => by
     have hj := (List.getElem?_eq_some_iff.1 hv).1
     simp only [List.length_cons, List.length_nil] at hj
     exact (hout _ (by omega)).trans (hr j v hv)
   ·exact .inl fun j v hv => by
     have hj := (List.getElem?_eq_some_iff.1 hv).1
     simp only [List.length_cons, List.length_nil] at hj
     exact (hout _ (by omega)).trans (hr j v hv)
   ·exact .inr ⟨ds, hd, fun j v hv => by have h := hin (j + 1) v (by simpa using hv); rwa [show p + (j + 1) = p + 1 + j by omega] at h⟩
   ·exact absurd ((hold 3 _ rfl).symm.trans (hr 1 _ rfl)) (by simp)
   ·exact absurd ((hold 3 _ rfl).symm.trans (hr 0 _ rfl)) (by simp)
   ·exact absurd ((hold 4 _ rfl).symm.trans (hr 0 _ rfl)) (by simp)
   ·exact absurd ((hold 5 _ rfl).symm.trans (hr 0 _ rfl)) (by simp)
   ·exact absurd ((hold 0 _ rfl).symm.trans (hr 1 _ rfl)) (by simp)
   ·exact absurd ((hold 1 _ rfl).symm.trans (hr 3 _ rfl)) (by simp)
   ·exact absurd ((hold 0 _ rfl).symm.trans (hr 3 _ rfl)) (by simp)
   ·exact absurd ((hold 0 _ rfl).symm.trans (hr 4 _ rfl)) (by simp)
  ·exact .inl fun j v hv => (hcell b _ hb).trans (hr j v hv)
 ·by_cases hb : b = g
  ·subst hb
   rcases (show q = p ∨ q + 6 ≤ p ∨ p + 6 ≤ q ∨ q = p + 1 ∨ q = p + 2 ∨ q = p + 3 ∨ q = p + 4 ∨ q = p + 5 ∨ p = q + 1 ∨ p = q + 2 ∨ p = q + 3 ∨ p = q + 4 ∨ p = q + 5 by omega) with rfl | h | h | rfl | rfl | rfl | rfl | rfl | rfl | rfl | rfl | rfl | rfl
   ·exact ⟨nm1, ds, hz, .inr hd, hin⟩
   ·exact ⟨nm, _, hnm, .inl rfl, fun j v hv => by
     have hj := (List.getElem?_eq_some_iff.1 hv).1
     simp only [List.length_cons, List.length_nil] at hj
     exact (hout _ (by omega)).trans (hr j v hv)⟩
   ·exact ⟨nm, _, hnm, .inl rfl, fun j v hv => by
     have hj := (List.getElem?_eq_some_iff.1 hv).1
     simp only [List.length_cons, List.length_nil] at hj
     exact (hout _ (by omega)).trans (hr j v hv)⟩
   ·exact absurd ((hold 1 _ rfl).symm.trans (hr 0 _ rfl)) (by simp)
   ·exact absurd ((hold 2 _ rfl).symm.trans (hr 0 _ rfl)) (by simp)
   ·exact absurd ((hold 4 _ rfl).symm.trans (hr 1 _ rfl)) (by simp)
   ·exact absurd ((hold 4 _ rfl).symm.trans (hr 0 _ rfl)) (by simp)
   ·exact absurd ((hold 5 _ rfl).symm.trans (hr 0 _ rfl)) (by simp)
   ·exact absurd ((hold 0 _ rfl).symm.trans (hr 1 _ rfl)) (by simp)
   ·exact absurd ((hold 0 _ rfl).symm.trans (hr 2 _ rfl)) (by simp)
   ·exact absurd ((hold 1 _ rfl).symm.trans (hr 4 _ rfl)) (by simp)
   ·exact absurd ((hold 0 _ rfl).symm.trans (hr 4 _ rfl)) (by simp)
   ·exact absurd ((hold 0 _ rfl).symm.trans (hr 5 _ rfl)) (by simp)
  ·exact ⟨nm, _, hnm, .inl rfl, fun j v hv => (hcell b _ hb).trans (hr j v hv)⟩
end
end Go.Proofs.YthjihdpleclejaaGreatDoor
namespace Go.Proofs.YthjihdpleclejaaGreatDoor
open Go.RowKit Go.Proofs
structure Spl (S : Nat → Prop) (w w' : World) : Prop where
  os : w'.os = w.os
  tape : w'.tape = w.tape
  output : w'.output = w.output
  size : w.heap.size ≤ w'.heap.size
  rest : ∀ b, ¬ S b → b < w.heap.size → w'.heap[b]? = w.heap[b]?
  warm : ∀ b, S b → ∀ off, w'.frozen? ⟨b, off, none⟩ = w.frozen? ⟨b, off, none⟩
  reads : ∀ V cs, Rd w S V cs → ∃ V', V'.nodes ≤ V.nodes ∧ Rd w' S V' cs
theorem Spl.trans {S : Nat → Prop} {a b c : World} (h : Spl S a b) (k : Spl S b c) : Spl S a c :=
 ⟨k.os.trans h.os, k.tape.trans h.tape, k.output.trans h.output, Nat.le_trans h.size k.size, fun x hx hl => (k.rest x hx (Nat.lt_of_lt_of_le hl h.size)).trans (h.rest x hx hl), fun x hx off => (k.warm x hx off).trans (h.warm x hx off), fun V cs hr => by
  obtain ⟨V1, h1, h2⟩ := h.reads V cs hr
  obtain ⟨V2, h3, h4⟩ := k.reads V1 cs h2
  exact ⟨V2, Nat.le_trans h3 h1, h4⟩⟩
theorem Spl.of_below {S : Nat → Prop} {w w' : World} (hS : ∀ b, S b → b < w.heap.size) (h : Below w.heap.size w w') : Spl S w w' :=
 ⟨h.os, h.tape, h.output, h.size, fun b _ hl => h.block b hl, fun b hb off => by simp only [World.frozen?, h.block b (hS b hb)], fun V cs hr => ⟨V, Nat.le_refl _, hr.keep (fun _ h => h) (fun b hb => h.block b (hS b hb))⟩⟩
theorem Spl.of_cells {S : Nat → Prop} {w : World} {g o : Nat} {vs : List Value} (hg : S g) (hsp : Spoilt S w (w.setCells g o vs)) : Spl S w (w.setCells g o vs) := by
 have hgr := setCells_grown g vs o w
 exact ⟨hgr.os, hgr.tape, hgr.output, hgr.size, fun b hb hl => hgr.block b hl (fun e => by injection e with e; subst e; exact hb hg), fun b _ off => World.frozen?_setCells _ _ _ _ _, fun V cs hr => spoilt_reads hsp hr⟩
theorem cells_else {g b : Nat} : ∀ (vs : List Value) (o : Nat) (w : World), b ≠ g → (w.setCells g o vs).heap[b]? = w.heap[b]?
 | [], _, _, _ => rfl
 | v :: r, o, w, h => by
  have ih := cells_else (g := g) (b := b) r (o + 1) (w.setCell ⟨g, o, none⟩ v) h
  exact ih.trans (Below.heap_setCell _ _ _ _ h)
section
variable {S : Nat → Prop} {w : World} {g p : Nat}
theorem in_cells {vs old : List Value} (hl : old.length = vs.length) (hold : ∀ (j : Nat) v, old[j]? = some v → w.cell? ⟨g, p + j, none⟩ = some v) : ∀ (j : Nat) v, vs[j]? = some v → (w.setCells g p vs).cell? ⟨g, p + j, none⟩ = some v := fun j v hv => by
 obtain ⟨hj, he⟩ := List.getElem?_eq_some_iff.1 hv
 rw [World.cell?_setCells_in g vs _ w (fun t ht => by rw [hold t _ (List.getElem?_eq_getElem (by omega))]; rfl) j hj, he]
theorem out_cells {vs : List Value} : ∀ o, o < p ∨ p + vs.length ≤ o → (w.setCells g p vs).cell? ⟨g, o, none⟩ = w.cell? ⟨g, o, none⟩ := fun o h => World.cell?_setCells_out g vs _ w ⟨g, o, none⟩ (fun _ _ => h)
theorem spl_val {k0 n0 k1 n1 : Int} {s0 s1 : ByteArray} {la0 fa0 : Option Addr} {ln0 lc0 fl0 fc0 : Nat} (hg : S g) (hk : I64 k1) (hn : I64 n1) (hs : s1.size ≤ 140737488355328) (hold : ∀ (j : Nat) v, [Value.int .i64 k0, .int .i64 n0, .string s0, .slice la0 ln0 lc0, .slice fa0 fl0 fc0][j]? = some v → w.cell? ⟨g, p + j, none⟩ = some v) : Spl S w (w.setCells g p (flatCs k1 n1 s1)) :=
 Spl.of_cells hg (spoilt_val (g := g) (p := p) ⟨k1, n1, s1, rfl, hk, hn, hs⟩ hold (fun _ hb => cells_else _ _ _ hb) (in_cells (old := [Value.int .i64 k0, .int .i64 n0, .string s0, .slice la0 ln0 lc0, .slice fa0 fl0 fc0]) rfl hold) (fun o h => out_cells o h))
theorem spl_fld {nm0 nm1 : ByteArray} {k0 n0 k1 n1 : Int} {s0 s1 : ByteArray} {la0 fa0 : Option Addr} {ln0 lc0 fl0 fc0 : Nat} (hg : S g) (hz : nm1.size ≤ 140737488355328) (hk : I64 k1) (hn : I64 n1) (hs : s1.size ≤ 140737488355328) (hold : ∀ (j : Nat) v, [Value.string nm0, .int .i64 k0, .int .i64 n0, .string s0, .slice la0 ln0 lc0, .slice fa0 fl0 fc0][j]? = some v → w.cell? ⟨g, p + j, none⟩ = some v) : Spl S w (w.setCells g p (.string nm1 :: flatCs k1 n1 s1)) :=
 Spl.of_cells hg (spoilt_fld (g := g) (p := p) hz ⟨k1, n1, s1, rfl, hk, hn, hs⟩ hold (fun _ hb => cells_else _ _ _ hb) (in_cells (old := [Value.string nm0, .int .i64 k0, .int .i64 n0, .string s0, .slice la0 ln0 lc0, .slice fa0 fl0 fc0]) rfl hold) (fun o h => out_cells o h))
end
end Go.Proofs.YthjihdpleclejaaGreatDoor
namespace Go.Proofs.YthjihdpleclejaaGreatDoor
open Go.RowKit Go.Proofs
def SpS (A i : Nat) (v : Value) (x : World) : Prop := x.cell? ⟨A, i, none⟩ = some v
theorem nodes_at {l : List PVal} {i : Nat} {x : PVal} (h : l[i]? = some x) : x.nodes ≤ nodesL l := by
 have h1 := nodesL_succ h
 have h2 := nodesL_take_le l (i + 1)
 omega
theorem five_len {w : World} {S : Nat → Prop} {V : PVal} {k n : Int} {s : ByteArray} {la fa : Option Addr} {ln lc fl fc : Nat} (h : Rd w S V [.int .i64 k, .int .i64 n, .string s, .slice la ln lc, .slice fa fl fc]) : ln ≤ 1759218604441 ∧ fl ≤ 1466015503701 := by
 obtain ⟨k2, n2, s2, l2, fn2, fv2⟩ := V
 obtain ⟨_, _, _, _, hcs, _, _, _, _, h1, _, h2, _, _⟩ := h.inv
 simp only [List.cons.injEq, Value.int.injEq, Value.string.injEq, Value.slice.injEq, and_true, true_and] at hcs
 obtain ⟨_, _, _, ⟨_, e1, _⟩, _, e2, _⟩ := hcs
 omega
set_option maxRecDepth 100000 in
set_option maxHeartbeats 8000000 in
theorem spoil_calls : ∀ (V : PVal) {S : Nat → Prop} {w : World} {cs : List Value}, (∀ b, S b → b < w.heap.size) → (∀ b, S b → ∀ off, w.frozen? ⟨b, off, none⟩ = false) → Rd w S V cs →
  Calls Tryz.prog 8 #[.agg cs.toArray] w fun e w' => e = .returned (.tuple #[]) ∧ Spl S w w' := by
 intro V
 induction hN : V.nodes using Nat.strongRecOn generalizing V with
 | _ N ih =>
 subst hN
 intro S w cs hS hwm hV
 have ih := hid (fun (x : PVal) (hx : x.nodes < V.nodes) (w' : World) (xs : List Value) (h1 : Spl S w w') hr => ih x.nodes hx x rfl (S := S) (w := w') (cs := xs) (fun b hb => Nat.lt_of_lt_of_le (hS b hb) h1.size) (fun b hb off => (h1.warm b hb off).trans (hwm b hb off)) hr)
 have ht := hid (fun w => text_calls ⟨#[115, 112, 111, 105, 108, 116]⟩ w)
 have hV0 := hid hV
 have hS0 := hid hS
 have hwm0 := hid hwm
 obtain ⟨vk, vn, vt, va, vl, vc, vf, vm, vg, rfl⟩ := hV.five
 have hlim := hid (five_len hV)
 have hnS : Hid (¬ S w.heap.size) := fun h => by have := hS _ h; omega
 clear hV hS hwm
 have rB := hid (heap_alloc_new w (.cells #[.int .i64 vk, .int .i64 vn, .string vt, .slice va vl vc, .slice vf vm vg] 25))
 have sB : Hid (Spl S w (w.alloc (.cells #[.int .i64 vk, .int .i64 vn, .string vt, .slice va vl vc, .slice vf vm vg] 25))) := Spl.of_below hS0.out (below_new w _)
 go_enter Tryz.func8, Tryz.ntmps8
 go_upto_region 1 with fail
 generalize w.alloc _ = W0 at *
 go_wp2_with fail
 go_loopg [2] vl (fun gk i wr => ∃ j : Nat, gk + j = vl ∧ i = .int .i64 j ∧ Hid (Spl S w wr) ∧ Hid (wr.heap[w.heap.size]? = some (.cells #[.int .i64 vk, .int .i64 vn, .string vt, .slice va vl vc, .slice vf vm vg] 25 (0, 0))))
 case atStart => exact ⟨0, by omega, rfl, sB, rB⟩
 case round =>
  clear rB sB
  obtain ⟨j, hg, rfl, hs, hr⟩ := hrel
  have a3 := box_at (j := 3) hr.out rfl
  by_cases hlt : j < vl
  ·obtain ⟨V2, hle, hr2⟩ := hs.out.reads V _ hV0.out
   obtain ⟨k2, n2, s2, l2, fn2, fv2⟩ := V2
   obtain ⟨_, _, _, _, hcs, _, _, _, _, _, _, _, hL, _⟩ := hr2.inv
   simp only [List.cons.injEq, Value.int.injEq, Value.string.injEq, Value.slice.injEq, and_true, true_and] at hcs
   obtain ⟨g1, g2, g3, ⟨rfl, hvl, rfl⟩, g4⟩ := hcs
   clear g1 g2 g3 g4
   obtain ⟨x, hx⟩ : ∃ x, l2[j]? = some x := ⟨_, List.getElem?_eq_getElem (by omega)⟩
   obtain ⟨b, off, xs, rfl, hSb, hc, hrx⟩ := hL.at_ hx
   have hxn : x.nodes < V.nodes := by have := nodes_at hx; simp only [PVal.nodes] at hle; omega
   obtain ⟨xk, xn, xt, xa, xl, xc, xf, xm, xg, rfl⟩ := hrx.five
   obtain ⟨c0, c1, c2, c3, c4⟩ := five hc
   have e1 : IntKind.i64.wrap ((j : Int) + 1) = (j : Int) + 1 := by rw [IntWalk.i64_in _ (by have := hlim.out.1; omega)]
   replace hrx := hid hrx
   replace hSb := hid hSb
   clear hvl hx hc hL hr2 hle
   go_wp2_with fail
   refine (ih.out x hxn wr _ hs.out hrx.out).mono ?_
   rintro e w2 ⟨rfl, hs2⟩
   clear c0 c1 c2 c3 c4 a3 hrx hxn
   have hs3 := hid (hs.out.trans hs2)
   have hr3 := hid ((hs2.rest _ hnS.out (lt_of_block hr.out)).trans hr.out)
   clear hs2
   obtain ⟨V3, hle3, hr33⟩ := hs3.out.reads V _ hV0.out
   obtain ⟨k3, n3, s3, l3, fn3, fv3⟩ := V3
   obtain ⟨_, _, _, _, hcs3, _, _, _, _, _, _, _, hL3, _⟩ := hr33.inv
   simp only [List.cons.injEq, Value.int.injEq, Value.string.injEq, Value.slice.injEq, and_true, true_and] at hcs3
   obtain ⟨g1, g2, g3, ⟨ha3, hvl3, rfl⟩, g4⟩ := hcs3
   clear g1 g2 g3 g4
   obtain ⟨y, hy⟩ : ∃ y, l3[j]? = some y := ⟨_, List.getElem?_eq_getElem (by omega)⟩
   obtain ⟨b', off', ys, hb', hSb', hc3, hry⟩ := hL3.at_ hy
   rw [← ha3] at hb'
   injection hb' with hb'
   injection hb' with hb1 hb2
   subst hb1 hb2
   obtain ⟨yk, yn, yt, ya, yl, yc, yf, ym, yg, rfl⟩ := hry.five
   replace hc3 := hid hc3
   clear ha3 hvl3 hy hL3 hry hr33 hle3 hSb'
   go_upto_region 5 with fail
   have hSS : Hid (∀ x : World, Below w2.heap.size w2 x → SpS w.heap.size 3 (.slice (some ⟨b, off, none⟩) vl vc) x) := fun x h => box_at ((h.block _ (lt_of_block hr3.out)).trans hr3.out) rfl
   refine wp_region_T (SpS w.heap.size 3 (.slice (some ⟨b, off, none⟩) vl vc)) 5 (by kernel_rfl) ?_
   have hq0 := hSS.out w2.drew (Below.refl w2.heap.size w2).drew
   ((refine wpAnyT_take (i := 0) (v := ?_) rfl (by kernel_rfl) (by kernel_rfl) (by kernel_rfl) (by kernel_rfl) (by exact fun _ _ _ h => h) (Or.inl ⟨by kernel_rfl, ?_⟩) hq0 ?_; rotate_left 1; focus (intro w hSw; unfold SpS at hSw; (try dsimp only at hSw); go_simp; try with_reducible rfl); (try simp only [List.getElem_toArray, List.getElem_cons_zero, List.getElem_cons_succ, Act.put, List.setIfInBounds_toArray, List.set_cons_zero, List.set_cons_succ])); (refine wpAnyT_take (i := 1) (v := ?_) rfl (by kernel_rfl) (by kernel_rfl) (by kernel_rfl) (by kernel_rfl) (by exact fun _ _ _ h => h) (Or.inl ⟨by kernel_rfl, ?_⟩) hq0 ?_; rotate_left 1; focus (intro w hSw; unfold SpS at hSw; (try dsimp only at hSw); go_simp; try with_reducible rfl); (try simp only [List.getElem_toArray, List.getElem_cons_zero, List.getElem_cons_succ, Act.put, List.setIfInBounds_toArray, List.set_cons_zero, List.set_cons_succ])); (refine wpAnyT_take (i := 2) (v := ?_) rfl (by kernel_rfl) (by kernel_rfl) (by kernel_rfl) (by kernel_rfl) (by exact fun _ _ _ h => h) (Or.inl ⟨by kernel_rfl, ?_⟩) hq0 ?_; rotate_left 1; focus (intro w hSw; unfold SpS at hSw; (try dsimp only at hSw); go_simp; try with_reducible rfl); (try simp only [List.getElem_toArray, List.getElem_cons_zero, List.getElem_cons_succ, Act.put, List.setIfInBounds_toArray, List.set_cons_zero, List.set_cons_succ])))
   refine wpAnyT_one (i := 3) (by kernel_rfl) rfl (fun K hK => ?_)
   go_simp
   refine (ht.out _).mono ?_
   rintro e w4 ⟨rfl, h4_⟩
   have h4 := hid ((Below.refl w2.heap.size w2).drew.step h4_)
   clear h4_
   (refine hK.out _ _ (fun _ => hSS.out w4 h4.out) (fun _ => ?_); clear hK K; (try simp only [Act.put, List.setIfInBounds_toArray, List.set_cons_zero, List.set_cons_succ]))
   refine wpAnyT_one (i := 4) (by kernel_rfl) rfl (fun K hK => ?_)
   go_simp
   (refine hK.out _ _ (fun _ => hSS.out w4 h4.out) (fun _ => ?_); clear hK K; (try simp only [Act.put, List.setIfInBounds_toArray, List.set_cons_zero, List.set_cons_succ]))
   have hF4 := hid (hs3.out.trans (Spl.of_below (fun b hb => Nat.lt_of_lt_of_le (hS0.out b hb) hs3.out.size) h4.out))
   have hold4 : Hid (∀ (j' : Nat) v, [.int .i64 yk, .int .i64 yn, .string yt, .slice ya yl yc, .slice yf ym yg][j']? = some v → w4.cell? ⟨b, off + j * 5 + j', none⟩ = some v) := fun j' v hv => (World.cell?_of_block (w := w2) (h4.out.block b (Nat.lt_of_lt_of_le (hS0.out b hSb.out) hs3.out.size))).trans (hc3.out j' v hv)
   have d0 := hold4.out 0 _ rfl
   have d1 := hold4.out 1 _ rfl
   have d2 := hold4.out 2 _ rfl
   have d3 := hold4.out 3 _ rfl
   have d4 := hold4.out 4 _ rfl
   rw [Nat.add_zero] at d0
   have f0 : ∀ o, w4.frozen? ⟨b, o, none⟩ = false := fun o => (hF4.out.warm b hSb.out o).trans (hwm0.out b hSb.out o)
   refine wpAnyT_one (i := 5) (by kernel_rfl) rfl (fun K hK => ?_)
   go_simp
   (refine hK.out _ _ (fun h => absurd h (by decide)) (fun _ => ?_); clear hK K; (try simp only [Act.put, List.setIfInBounds_toArray]))
   clear d0 d1 d2 d3 d4 f0
   refine wpAnyT_done (by kernel_rfl) ?_ _
   have hst := hid (spl_val (w := w4) (g := b) (p := off + j * 5) (k1 := 4) (n1 := 0) (s1 := ⟨#[115, 112, 111, 105, 108, 116]⟩) hSb.out ⟨by decide, by decide⟩ ⟨by decide, by decide⟩ (by decide) hold4.out)
   have hF5 := hid (hF4.out.trans hst.out)
   go_wp2_with fail
   go_roundg (vl - (j + 1))
   case measure => omega
   case rel => exact ⟨j + 1, by omega, by go_num, hF5, (hst.out.rest _ hnS.out (lt_of_block ((h4.out.block _ (lt_of_block hr3.out)).trans hr3.out))).trans ((h4.out.block _ (lt_of_block hr3.out)).trans hr3.out)⟩
  ·go_wp2_with fail
   clear a3 hg
   go_loopg [3] vm (fun gk i wr => ∃ j : Nat, gk + j = vm ∧ i = .int .i64 j ∧ Hid (Spl S w wr) ∧ Hid (wr.heap[w.heap.size]? = some (.cells #[.int .i64 vk, .int .i64 vn, .string vt, .slice va vl vc, .slice vf vm vg] 25 (0, 0))))
   case atStart => exact ⟨0, by omega, rfl, hs, hr⟩
   case round =>
    clear hs hr
    obtain ⟨j, hg, rfl, hs, hr⟩ := hrel
    have a4 := box_at (j := 4) hr.out rfl
    by_cases hlt : j < vm
    ·obtain ⟨V2, hle, hr2⟩ := hs.out.reads V _ hV0.out
     obtain ⟨k2, n2, s2, l2, fn2, fv2⟩ := V2
     obtain ⟨_, _, _, _, hcs, _, _, _, _, _, _, _, _, hF⟩ := hr2.inv
     simp only [List.cons.injEq, Value.int.injEq, Value.string.injEq, Value.slice.injEq, and_true, true_and] at hcs
     obtain ⟨g1, g2, g3, g4, rfl, hvl, rfl⟩ := hcs
     clear g1 g2 g3 g4
     obtain ⟨x, hx⟩ : ∃ x, fv2[j]? = some x := ⟨_, List.getElem?_eq_getElem (by omega)⟩
     obtain ⟨nm, hnm⟩ : ∃ nm, fn2[j]? = some nm := ⟨_, List.getElem?_eq_getElem (by have := hF.1; omega)⟩
     obtain ⟨b, off, xs, rfl, hSb, hc, hrx, hz⟩ := hF.at_ hnm hx
     have hxn : x.nodes < V.nodes := by have := nodes_at hx; simp only [PVal.nodes] at hle; omega
     obtain ⟨xk, xn, xt, xa, xl, xc, xf, xm, xg, rfl⟩ := hrx.five
     obtain ⟨c0, c1, c2, c3, c4, c5⟩ := six hc
     have e1 : IntKind.i64.wrap ((j : Int) + 1) = (j : Int) + 1 := by rw [IntWalk.i64_in _ (by have := hlim.out.2; omega)]
     replace hrx := hid hrx
     replace hSb := hid hSb
     clear hvl hx hc hF hr2 hle hnm hz
     go_wp2_with fail
     refine (ih.out x hxn wr _ hs.out hrx.out).mono ?_
     rintro e w2 ⟨rfl, hs2⟩
     clear c0 c1 c2 c3 c4 c5 a4 hrx hxn
     have hs3 := hid (hs.out.trans hs2)
     have hr3 := hid ((hs2.rest _ hnS.out (lt_of_block hr.out)).trans hr.out)
     clear hs2
     obtain ⟨V3, hle3, hr33⟩ := hs3.out.reads V _ hV0.out
     obtain ⟨k3, n3, s3, l3, fn3, fv3⟩ := V3
     obtain ⟨_, _, _, _, hcs3, _, _, _, _, _, _, _, _, hF3⟩ := hr33.inv
     simp only [List.cons.injEq, Value.int.injEq, Value.string.injEq, Value.slice.injEq, and_true, true_and] at hcs3
     obtain ⟨g1, g2, g3, g4, ha3, hvl3, rfl⟩ := hcs3
     clear g1 g2 g3 g4
     obtain ⟨y, hy⟩ : ∃ y, fv3[j]? = some y := ⟨_, List.getElem?_eq_getElem (by omega)⟩
     obtain ⟨nm3, hnm3⟩ : ∃ nm, fn3[j]? = some nm := ⟨_, List.getElem?_eq_getElem (by have := hF3.1; omega)⟩
     obtain ⟨b', off', ys, hb', hSb', hc3, hry, hz3⟩ := hF3.at_ hnm3 hy
     rw [← ha3] at hb'
     injection hb' with hb'
     injection hb' with hb1 hb2
     subst hb1 hb2
     obtain ⟨yk, yn, yt, ya, yl, yc, yf, ym, yg, rfl⟩ := hry.five
     replace hc3 := hid hc3
     clear ha3 hvl3 hy hF3 hry hr33 hle3 hSb' hnm3 hz3
     have d0 := hc3.out 0 _ rfl
     have d1 := hc3.out 1 _ rfl
     have d2 := hc3.out 2 _ rfl
     have d3 := hc3.out 3 _ rfl
     have d4 := hc3.out 4 _ rfl
     have d5 := hc3.out 5 _ rfl
     rw [Nat.add_zero] at d0
     have a4 := box_at (j := 4) hr3.out rfl
     have f0 : ∀ o, w2.frozen? ⟨b, o, none⟩ = false := fun o => (hs3.out.warm b hSb.out o).trans (hwm0.out b hSb.out o)
     have hst := hid (spl_fld (w := w2) (g := b) (p := off + j * 6) (nm1 := ⟨#[115, 112, 111, 105, 108, 116]⟩) (k1 := 0) (n1 := 0) (s1 := ⟨#[]⟩) hSb.out (by decide) ⟨by decide, by decide⟩ ⟨by decide, by decide⟩ (by decide) hc3.out)
     go_wp2_with fail
     go_roundg (vm - (j + 1))
     case measure => omega
     case rel => exact ⟨j + 1, by omega, by go_num, hs3.out.trans hst.out, (hst.out.rest _ hnS.out (lt_of_block hr3.out)).trans hr3.out⟩
    ·go_wp2_with fail
     exact ⟨rfl, _, by simp [results, Tryz.results8, go_sem] <;> rfl, rfl, hs.out⟩
end Go.Proofs.YthjihdpleclejaaGreatDoor
