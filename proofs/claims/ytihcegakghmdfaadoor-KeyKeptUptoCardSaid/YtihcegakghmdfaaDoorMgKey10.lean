/-
  Walks: bytes.Equal; the key's reader's value at whatever depth; the deferred function of key.Split; what Split's boxes hold.
  Walk: key.Split.
  Walks: key.Back, After.
-/
import Derived.Test.YtihcegakghmdfaaDoorMgKey6
import Derived.Test.YtihcegakghmdfaaDoorMgKey8
import Derived.Defers
import Derived.Recover
import Derived.Test.YtihcegakghmdfaaDoorMgHel
import Derived.Test.YtihcegakghmdfaaDoorMgKeyP
namespace Go.Proofs.YtihcegakghmdfaaDoor
open Go.RowKit Go.Proofs
section
variable {P : Program} {ops : Array Oper} {Q : Exit → Act → World → Prop} {md : Region.Mode} {S : World → Prop} {n : Nat}
/-- Two operations may come up. -/
theorem wpAnyT_two {i j : Nat} {o o' : Oper} {fuel : Nat} {listed : Array Bool} {a : Act} {w : World} (hr : Region.ready md ops listed = [i, j]) (ho : ops[i]? = some o) (ho' : ops[j]? = some o')
    (h : ∀ K : Act → World → Prop, Shut (∀ a w, (i < n → S w) → ((i < n → S w) → wpAnyT P md ops Q S n fuel (listed.setIfInBounds i true) a w) → K a w) → if Region.wanted o (yielded ops a.tmps) = true then Oper.wp P o a w K Q else K (a.put o.dst undef) w)
    (h' : ∀ K : Act → World → Prop, Shut (∀ a w, (j < n → S w) → ((j < n → S w) → wpAnyT P md ops Q S n fuel (listed.setIfInBounds j true) a w) → K a w) → if Region.wanted o' (yielded ops a.tmps) = true then Oper.wp P o' a w K Q else K (a.put o'.dst undef) w) :
    wpAnyT P md ops Q S n (fuel + 1) listed a w := by
  refine ⟨fun h0 => absurd h0 (by rw [hr]; simp), fun k hk => ?_⟩
  rw [hr] at hk
  rcases List.mem_cons.1 hk with rfl | hk
  · exact wpOp_step ho fun K hK => h K fun a w hS hW => hK a w ⟨hS, hW hS⟩
  · obtain rfl : k = j := by simpa using hk
    exact wpOp_step ho' fun K hK => h' K fun a w hS hW => hK a w ⟨hS, hW hS⟩
end

theorem set_tail (A : List Value) (z0 z1 z2 z3 z4 v0 v1 v2 v3 v4 : Value) (o : Nat) (ho : o = A.length) : (((((A ++ [z0, z1, z2, z3, z4]).set o v0).set (o + 1) v1).set (o + 2) v2).set (o + 3) v3).set (o + 4) v4 = A ++ [v0, v1, v2, v3, v4] := by
  subst ho
  simp
def setAt5 (w : World) (g o : Nat) (u0 u1 u2 u3 u4 : Value) : World :=
  ((((w.setCell ⟨g, o, none⟩ u0).setCell ⟨g, o + 1, none⟩ u1).setCell ⟨g, o + 2, none⟩ u2).setCell ⟨g, o + 3, none⟩ u3).setCell ⟨g, o + 4, none⟩ u4
theorem setAt5_size (w : World) (g o : Nat) (u0 u1 u2 u3 u4 : Value) : (setAt5 w g o u0 u1 u2 u3 u4).heap.size = w.heap.size := by simp [setAt5, World.setCell]
theorem setAt5_other (w : World) (g o : Nat) (u0 u1 u2 u3 u4 : Value) {b : Nat} (h : b ≠ g) : (setAt5 w g o u0 u1 u2 u3 u4).heap[b]? = w.heap[b]? := by
  unfold setAt5
  rw [Below.heap_setCell _ _ _ _ h, Below.heap_setCell _ _ _ _ h, Below.heap_setCell _ _ _ _ h, Below.heap_setCell _ _ _ _ h, Below.heap_setCell _ _ _ _ h]
/-- The last value of a slice of the call's own is written over. -/
theorem OwnG.fill {w : World} {A B e : Nat} {xs : List PVal} {X Z : PVal} {g cap : Nat} {v0 v1 v2 v3 v4 : Value} (h : OwnG Rd 5 A B e w (xs ++ [Z]) (.slice (some ⟨g, 0, none⟩) (xs.length + 1) cap))
    (hX : Rd w (Apart B w (.slice (some ⟨g, 0, none⟩) (xs.length + 1) cap)) X [v0, v1, v2, v3, v4]) : OwnG Rd 5 A B e (setAt5 w g (xs.length * 5) v0 v1 v2 v3 v4) (xs ++ [X]) (.slice (some ⟨g, 0, none⟩) (xs.length + 1) cap) := by
  obtain ⟨css, hlen, ho, hr⟩ := h
  rw [List.length_append, List.length_singleton] at hlen ho
  have h5 : ∀ cs ∈ css, cs.length = 5 := by
    intro cs hcs
    obtain ⟨i, hi⟩ := List.getElem?_of_mem hcs
    have hil : i < (xs ++ [Z]).length := by rw [List.length_append, List.length_singleton, ← hlen]; exact (List.getElem?_eq_some_iff.1 hi).1
    exact (hr i _ cs (List.getElem?_eq_getElem hil) hi).len
  obtain ⟨cs0, z, rfl⟩ : ∃ cs0 z, css = cs0 ++ [z] := ⟨css.dropLast, css.getLast (by intro e; rw [e] at hlen; simp at hlen), (List.dropLast_concat_getLast _).symm⟩
  have hz := h5 z (by simp)
  have hl0 : cs0.length = xs.length := by simpa using hlen
  have hf0 : cs0.flatten.length = xs.length * 5 := by
    rw [← hl0]
    clear hr ho hlen hl0
    induction cs0 with
    | nil => rfl
    | cons c t ih =>
      have := h5 c (by simp)
      have := ih (fun x hx => h5 x (by
        rcases List.mem_append.1 hx with h | h
        · simp [h]
        · simp [List.mem_singleton.1 h]))
      simp only [List.flatten_cons, List.length_append, List.length_cons] at this ⊢; omega
  obtain ⟨z0, z1, z2, z3, z4, rfl⟩ : ∃ z0 z1 z2 z3 z4, z = [z0, z1, z2, z3, z4] := by
    match z, hz with
    | [a, b, c, d, e], _ => exact ⟨a, b, c, d, e, rfl⟩
  have e0 : (cs0 ++ [[z0, z1, z2, z3, z4]]).flatten = cs0.flatten ++ [z0, z1, z2, z3, z4] := by simp
  rw [e0] at ho
  have s0 := (ho.stored (xs.length * 5) v0).1
  have s1 := (s0.stored (xs.length * 5 + 1) v1).1
  have s2 := (s1.stored (xs.length * 5 + 2) v2).1
  have s3 := (s2.stored (xs.length * 5 + 3) v3).1
  have s4 := (s3.stored (xs.length * 5 + 4) v4).1
  rw [set_tail _ _ _ _ _ _ _ _ _ _ _ _ hf0.symm] at s4
  refine ⟨cs0 ++ [[v0, v1, v2, v3, v4]], by simp [hl0], ?_, fun i y ys hy hys => ?_⟩
  · rw [List.length_append, List.length_singleton, show (cs0 ++ [[v0, v1, v2, v3, v4]]).flatten = cs0.flatten ++ [v0, v1, v2, v3, v4] by simp]
    exact s4
  · have hk : ∀ b, Apart B w (.slice (some ⟨g, 0, none⟩) (xs.length + 1) cap) b → (setAt5 w g (xs.length * 5) v0 v1 v2 v3 v4).heap[b]? = w.heap[b]? := fun b hb => setAt5_other _ _ _ _ _ _ _ _ (fun e => hb.2.2 (by rw [e]; rfl))
    have hS : ∀ b, Apart B w (.slice (some ⟨g, 0, none⟩) (xs.length + 1) cap) b → Apart B (setAt5 w g (xs.length * 5) v0 v1 v2 v3 v4) (.slice (some ⟨g, 0, none⟩) (xs.length + 1) cap) b := fun b hb => ⟨hb.1, by rw [setAt5_size]; exact hb.2.1, hb.2.2⟩
    rcases Nat.lt_or_ge i xs.length with hlt | hge
    · rw [List.getElem?_append_left hlt] at hy
      rw [List.getElem?_append_left (by omega)] at hys
      exact (hr i y ys (by rw [List.getElem?_append_left hlt]; exact hy) (by rw [List.getElem?_append_left (by omega)]; exact hys)).keep hS hk
    · rw [List.getElem?_append_right hge] at hy
      rw [List.getElem?_append_right (by omega)] at hys
      have hi : i = xs.length := by
        have := (List.getElem?_eq_some_iff.1 hy).1
        simp at this; omega
      subst hi
      simp at hy
      simp [hl0] at hys
      subst hy hys
      exact hX.keep hS hk

set_option maxRecDepth 100000 in
/-- The bytes of a slice, turned into a text. -/
theorem conv_at {w : World} {S : Nat → Prop} {l : List UInt8} {a : Option Addr} {cap : Nat} (h : BytesAt w S l (.slice a l.length cap)) :
    (convert 26 9 (.slice a l.length cap)).run Tryd.prog w = .ok (.string ⟨l.toArray⟩) w := by
  obtain ⟨a', cap', e, _, _, h9⟩ := h
  injection e with e1 e2 e3
  subst e1
  rcases h9 with h0 | ⟨b, off, rfl, h5, h6⟩
  · subst h0
    cases a with
    | none => exact Lib.run_convert_nil_bytes w 26 9 5 _ Tryd.underlying26 Tryd.underlying5 Tryd.underlying9
    | some ad => exact run_convert_bytes_back w 26 9 5 ad _ [] Tryd.underlying26 Tryd.underlying5 Tryd.underlying9 (fun j hj => by simp at hj)
  · exact run_convert_bytes_back w 26 9 5 ⟨b, off, none⟩ _ l Tryd.underlying26 Tryd.underlying5 Tryd.underlying9 (fun j hj => by
      rw [addr_at]
      exact h6 j _ (List.getElem?_eq_getElem hj))

set_option maxRecDepth 100000 in
theorem equal_calls {w : World} {l m : List UInt8} {v u : Value} (h : BytesAt w (Now w) l v) (k : BytesAt w (Now w) m u) :
    Calls Tryd.prog 85 #[v, u] w fun e w' => e = .returned (.bool (l == m)) ∧ w = w' := by
  obtain ⟨a, ca, rfl, ha, _⟩ := id h
  obtain ⟨b, cb, rfl, hb, _⟩ := id k
  have h1 := conv_at h
  have h2 := conv_at k
  clear h k
  go_enter Tryd.func85, Tryd.ntmps85
  go_wp2_with fail
  go_ret
  exact ⟨rfl, rfl⟩

/-- A value of a key, of at most so many within one another. -/
theorem kvalue_calls {g : Nat} : ∀ (m : Nat), m ≤ 9 → ∀ (w : World) (r : List UInt8), KAt w g r → r.length ≤ 1099511627776 →
    Calls Tryd.prog 83 #[.pointer (some ⟨g, 0, none⟩), .int .i64 ((m : Int) - 1)] w (ToldK (keyR false m r) (GiveK w.heap.size) w g r)
  | 0, _, w, r, h, hl => by
    have hmn := hid kmust_no
    have h0 := hid h
    go_enter Tryd.func83, Tryd.ntmps83
    go_wp2_with fail
    refine wp_scope_falls (fun _ _ _ _ => False) (fun _ _ _ _ h => h.elim) ?_
    intro _
    go_wp2_with fail
    refine (hmn.out _).mono ?_
    rintro e w1 ⟨rfl, rfl⟩
    go_wp2_with fail
    rw [jumps_panic]
    exact ⟨rfl, Save.of_below (below_new _ _), rfl⟩
  | m + 1, hm, w, r, h, hl => by
    have := kvalue_walk m (by omega) (g := g) (keyR false m) (fun w r h hl => kvalue_calls m (by omega) w r h hl) h hl _ rfl
    rwa [show ((m + 1 : Nat) : Int) - 1 = (m : Int) by omega]
end Go.Proofs.YtihcegakghmdfaaDoor

namespace Go.Proofs.YtihcegakghmdfaaDoor
open Go.RowKit Go.Proofs

/-- The boxes of Split's results: a list, an error. -/
structure OutS (w : World) (B : Nat) (x y : Value) : Prop where
  r0 : w.heap[B]? = some (.cells #[x] 22 (0, 0))
  r1 : w.heap[B + 1]? = some (.cells #[y] 28 (0, 0))
theorem OutS.save {w w' : World} {B g : Nat} {x y : Value} (h : OutS w B x y) (hs : Save g w w') (h0 : B ≠ g) (h1 : B + 1 ≠ g) : OutS w' B x y :=
  ⟨(hs.block _ (lt_of_block h.r0) h0).trans h.r0, (hs.block _ (lt_of_block h.r1) h1).trans h.r1⟩
theorem OutS.below {w w' : World} {B C : Nat} {x y : Value} (h : OutS w B x y) (hb : Below C w w') (hC : B + 1 < C) : OutS w' B x y :=
  ⟨(hb.block _ (by omega)).trans h.r0, (hb.block _ hC).trans h.r1⟩
theorem OutS.later {w w' : World} {B : Nat} {x y : Value} (h : OutS w B x y) (hb : Below w.heap.size w w') : OutS w' B x y := h.below hb (lt_of_block h.r1)
theorem OutS.set0 {w : World} {B : Nat} {x y : Value} (h : OutS w B x y) (u : Value) : OutS (w.setCell ⟨B, 0, none⟩ u) B u y :=
  ⟨(row_setCell (cs := #[x]) (t := 22) h.r0 : _), (Below.heap_setCell _ _ _ _ (by simp)).trans h.r1⟩
theorem OutS.set1 {w : World} {B : Nat} {x y : Value} (h : OutS w B x y) (u : Value) : OutS (w.setCell ⟨B + 1, 0, none⟩ u) B x u :=
  ⟨(Below.heap_setCell _ _ _ _ (by simp)).trans h.r0, (row_setCell (cs := #[y]) (t := 28) h.r1 : _)⟩

set_option maxRecDepth 100000 in
set_option maxHeartbeats 1000000 in
theorem split_caught (B : Nat) (c : Int) (older : List PanicEntry) (w : World) (x y : Value) (h : OutS w B x y) :
    CallsD Tryd.prog 82 #[.pointer (some ⟨B, 0, none⟩), .pointer (some ⟨B + 1, 0, none⟩)] (.panicking ({ v := .iface 28 (.int .i64 c), recovered := false } :: older)) w fun e u' w' =>
      e = .returned (.tuple #[]) ∧ u' = .panicking ({ v := .iface 28 (.int .i64 c), recovered := true } :: older) ∧ Below B w w' ∧ OutS w' B (.slice none 0 0) (.int .i64 c) := by
  have hta : ∀ w : World, (Instr.typeAssert (.iface 28 (.int .i64 c)) 20 28 true).run Tryd.prog w = .ok (.tuple #[.int .i64 c, .bool true]) w := fun w => by rfl
  have c0 := box_at (j := 0) h.r0 rfl
  have c1 := box_at (j := 0) h.r1 rfl
  have f0 := box_free h.r0 0
  have f1 := box_free h.r1 0
  have hrep : (Array.replicate 14 undef : Array Value) = #[undef, undef, undef, undef, undef, undef, undef, undef, undef, undef, undef, undef, undef, undef] := rfl
  refine callsD_of_wpS Tryd.func82 rfl fun c₀ cs hu => ?_
  apply wpS_seq
  apply wpS_region
  simp [wpOpsS, go_sem, recoverD, hu, Tryd.ntmps82, Exit.thenS, hrep]
  refine wpS_of_wp ?_
  go_wp2_with fail
  have hB := ((Below.refl B w).setCell (p := ⟨B, 0, none⟩) (Nat.le_refl _) (.slice none 0 0)).setCell (p := ⟨B + 1, 0, none⟩) (by simp) (.int .i64 c)
  have hO := (h.set0 (.slice none 0 0)).set1 (.int .i64 c)
  cases c₀
  simp only at hu
  subst hu
  simp [bodyPostS, results, Tryd.results82]
  exact ⟨hB, hO⟩
set_option maxRecDepth 100000 in
theorem split_idle (a b : Value) (w : World) :
    CallsD Tryd.prog 82 #[a, b] .returning w fun e u' w' => e = .returned (.tuple #[]) ∧ u' = .returning ∧ w' = w := by
  have hta : ∀ w : World, (Instr.typeAssert .nilIface 20 28 true).run Tryd.prog w = .ok (.tuple #[.int .i64 0, .bool false]) w := fun w => by rfl
  have hrep : (Array.replicate 14 undef : Array Value) = #[undef, undef, undef, undef, undef, undef, undef, undef, undef, undef, undef, undef, undef, undef] := rfl
  refine callsD_of_wpS Tryd.func82 rfl fun c₀ cs hu => ?_
  apply wpS_seq
  apply wpS_region
  simp [wpOpsS, go_sem, recoverD, hu, Tryd.ntmps82, Exit.thenS, hrep]
  refine wpS_of_wp ?_
  go_wp2_with fail
  cases c₀
  simp_all [bodyPostS, results, Tryd.results82]

theorem leaves_tmps {P : Program} {fn : Func} {t t' : Array Value} {R : Ending → World → Prop} (h : results fn t = results fn t') : ∀ (ds : List Deferred) (u : FrameMode) (w : World), Leaves P fn t R ds u w → Leaves P fn t' R ds u w
  | [], .returning, w, hL => by
    obtain ⟨v, h1, h2⟩ := hL
    exact ⟨v, by rw [← h]; exact h1, h2⟩
  | [], .panicking chain, w, hL => hL
  | [], .run, w, hL => hL
  | d :: ds, u, w, hL => by
    obtain ⟨hu, fv, cap, f, args, h1, h2, h3⟩ := hL
    refine ⟨hu, fv, cap, f, args, h1, h2, h3.mono fun e u' w' h4 => ?_⟩
    cases e with
    | returned v => exact leaves_tmps h ds _ _ h4
    | panicked c => exact leaves_tmps h ds _ _ h4
    | outgrown => exact h4
set_option maxRecDepth 100000 in
theorem split_put {R : Ending → World → Prop} {d : Nat} (hd : d ≠ 4) (hd' : d ≠ 5) {v : Value} {c : List PanicEntry} {a : Act} {w : World} (h : bodyPostD Tryd.prog Tryd.f37 R (.panic c) (a.put (some d) v) w) : bodyPostD Tryd.prog Tryd.f37 R (.panic c) a w := by
  refine leaves_tmps ?_ _ _ _ h
  simp [results, Tryd.results37, Act.put, Array.getD_eq_getD_getElem?, Array.getElem?_setIfInBounds, hd, hd']

/-- Split at work: the boxes of its results (the list's holds lv), the reader, the list. -/
structure SpS (w wr : World) (r : List UInt8) (lv : Value) (xs : List PVal) (vs : Value) : Prop where
  out : OutS wr w.heap.size lv (.int .i64 0)
  at_ : KAt wr (w.heap.size + 2) r
  low : Below w.heap.size w wr
  own : OwnG Rd 5 (w.heap.size + 3) (w.heap.size + 3) 25 wr xs vs
section
variable {w wr w' : World} {r r' : List UInt8} {lv vs : Value} {xs : List PVal}
theorem SpS.size (h : SpS w wr r lv xs vs) : w.heap.size + 3 ≤ wr.heap.size := h.at_.lt
theorem SpS.call (h : SpS w wr r lv xs vs) (hs : Save (w.heap.size + 2) wr w') (ha : KAt w' (w.heap.size + 2) r') : SpS w w' r' lv xs vs :=
  ⟨h.out.save hs (by omega) (by omega), ha, h.low.trans (hs.below (by omega) h.at_.lt), h.own.keep valRel hs.size (fun b hb => hs.block b (h.own.lt b hb).2 (by have := (h.own.lt b hb).1; omega)) (fun b hb => hs.block b hb.2.1 (by have := hb.1; omega))⟩
theorem SpS.later (h : SpS w wr r lv xs vs) (hb : Below wr.heap.size wr w') : SpS w w' r lv xs vs := h.call (Save.of_below hb) (h.at_.later hb)
theorem SpS.drew (h : SpS w wr r lv xs vs) : SpS w wr.drew r lv xs vs := h.later (Below.refl _ _).drew
theorem SpS.push {ys : List PVal} {us : Value} (h : SpS w wr r lv xs vs) (ho : OwnG Rd 5 (w.heap.size + 3) (w.heap.size + 3) 25 w' ys us) (hg : wr.grownBy w' vs.ownBlock) : SpS w w' r lv ys us := by
  have hb := grown_from h.own hg h.size
  exact ⟨h.out.below hb (by omega), h.at_.keep (fun b k => hb.block b (by omega)), h.low.trans (hb.mono (by omega)), ho⟩
/-- A store into one of the two boxes ahead of the reader. -/
theorem KAt.box {g b o : Nat} {u : Value} (h : KAt wr g r) (hb : b < g) (hs : g ≤ b + 2) : KAt (wr.setCell ⟨b, o, none⟩ u) g r := by
  obtain ⟨⟨sv, h1, h2⟩, h3⟩ := h
  exact ⟨⟨sv, (Below.heap_setCell _ _ _ _ (by simp; omega)).trans h1, h2.keep (fun _ k => k) (fun c k => Below.heap_setCell _ _ _ _ (by simp; omega))⟩, h3⟩
theorem SpS.setl (h : SpS w wr r lv xs vs) (u : Value) : SpS w (wr.setCell ⟨w.heap.size, 0, none⟩ u) r u xs vs :=
  ⟨h.out.set0 u, h.at_.box (by omega) (by omega), h.low.setCell (p := ⟨w.heap.size, 0, none⟩) (Nat.le_refl _) u, h.own.box valRel ⟨w.heap.size, 0, none⟩ u (fun e => by have := (h.own.lt _ e).1; simp at this; omega) (by simp)⟩
end
theorem SpS.fill {w wr : World} {r : List UInt8} {lv : Value} {xs : List PVal} {X Z : PVal} {g cap : Nat} {v0 v1 v2 v3 v4 : Value} (h : SpS w wr r lv (xs ++ [Z]) (.slice (some ⟨g, 0, none⟩) (xs.length + 1) cap))
    (hX : Rd wr (Apart (w.heap.size + 3) wr (.slice (some ⟨g, 0, none⟩) (xs.length + 1) cap)) X [v0, v1, v2, v3, v4]) : SpS w (setAt5 wr g (xs.length * 5) v0 v1 v2 v3 v4) r lv (xs ++ [X]) (.slice (some ⟨g, 0, none⟩) (xs.length + 1) cap) := by
  have hg := (h.own.lt g rfl).1
  have hb : Below (w.heap.size + 3) wr (setAt5 wr g (xs.length * 5) v0 v1 v2 v3 v4) := by
    unfold setAt5
    exact (((((Below.refl _ _).setCell (p := ⟨g, _, none⟩) hg _).setCell (p := ⟨g, _, none⟩) hg _).setCell (p := ⟨g, _, none⟩) hg _).setCell (p := ⟨g, _, none⟩) hg _).setCell (p := ⟨g, _, none⟩) hg _
  exact ⟨h.out.below hb (by omega), h.at_.keep (fun b k => hb.block b (by omega)), h.low.trans (hb.mono (by omega)), h.own.fill hX⟩
theorem SpS.cells {w wr : World} {r : List UInt8} {lv : Value} {xs : List PVal} {Z : PVal} {g cap : Nat} (h : SpS w wr r lv (xs ++ [Z]) (.slice (some ⟨g, 0, none⟩) (xs.length + 1) cap)) :
    (∃ u, wr.cell? ⟨g, xs.length * 5, none⟩ = some u) ∧ (∃ u, wr.cell? ⟨g, xs.length * 5 + 1, none⟩ = some u) ∧ (∃ u, wr.cell? ⟨g, xs.length * 5 + 2, none⟩ = some u) ∧ (∃ u, wr.cell? ⟨g, xs.length * 5 + 3, none⟩ = some u) ∧ (∃ u, wr.cell? ⟨g, xs.length * 5 + 4, none⟩ = some u) ∧
      (∀ o, wr.frozen? ⟨g, o, none⟩ = false) ∧ g ≠ w.heap.size := by
  obtain ⟨css, hl8, ho8, _⟩ := h.own
  rw [List.length_append, List.length_singleton] at ho8
  have hcl8 := ho8.1
  exact ⟨⟨_, by rw [ho8.cellAt _ (by omega), List.getElem?_eq_getElem (by omega)]⟩, ⟨_, by rw [ho8.cellAt _ (by omega), List.getElem?_eq_getElem (by omega)]⟩, ⟨_, by rw [ho8.cellAt _ (by omega), List.getElem?_eq_getElem (by omega)]⟩, ⟨_, by rw [ho8.cellAt _ (by omega), List.getElem?_eq_getElem (by omega)]⟩, ⟨_, by rw [ho8.cellAt _ (by omega), List.getElem?_eq_getElem (by omega)]⟩,
    fun o => ho8.frozenAt o, by have := (ho8.lt g rfl).1; omega⟩
/-- A list whose elements' lists may be written. -/
def RdT (w : World) (S : Nat → Prop) (x : PVal) (cs : List Value) : Prop := Rd w S x cs ∧ ∀ (j : Nat) (ad : Addr) (n c : Nat), cs[j]? = some (.slice (some ad) n c) → S ad.block ∧ ∀ off, w.frozen? ⟨ad.block, off, none⟩ = false
theorem thawRel : RowRel RdT 5 :=
  ⟨fun hS hb ⟨h1, h2⟩ => ⟨h1.keep hS hb, fun j ad n c hj => ⟨hS _ (h2 j ad n c hj).1, fun off => by
    rw [← (h2 j ad n c hj).2 off]
    unfold World.frozen?
    rw [hb _ (h2 j ad n c hj).1]⟩⟩, fun h => h.1.one, fun h => h.1.len⟩
theorem OwnG.base {α : Type} {R : World → (Nat → Prop) → α → List Value → Prop} {sz A B A' B' e : Nat} (hR : RowRel R sz) {w : World} {xs : List α} {v : Value} (h : OwnG R sz A B e w xs v) (hA : A' ≤ A) (hB : B' ≤ B) : OwnG R sz A' B' e w xs v := by
  obtain ⟨css, hlen, ho, hr⟩ := h
  refine ⟨css, hlen, ⟨ho.1, ?_⟩, fun i x cs hx hc => hR.keep (fun b hb => ⟨Nat.le_trans hB hb.1, hb.2⟩) (fun _ _ => rfl) (hr i x cs hx hc)⟩
  rcases ho.2 with h0 | ⟨g, cap, cur, hv, hb, hr⟩
  · exact .inl h0
  · exact .inr ⟨g, cap, cur, hv, Nat.le_trans hA hb, hr⟩
theorem OwnB.bytes {w w' : World} {l : List UInt8} {v : Value} (h : OwnB w w' l v) : BytesAt w' (From w.heap.size w') l v := by
  obtain ⟨_, ho⟩ := h
  rcases ho.2 with ⟨rfl, h0⟩ | ⟨g, cap, cur, rfl, _⟩
  · obtain rfl : l = [] := List.eq_nil_of_length_eq_zero h0
    exact ⟨none, 0, rfl, by simp, by simp, .inl rfl⟩
  · have hc := own_cap ho
    refine ⟨_, _, rfl, hc.1, hc.2, .inr ⟨g, 0, rfl, ho.lt g rfl, fun j x hx => ?_⟩⟩
    have hj := (List.getElem?_eq_some_iff.1 hx).1
    rw [Nat.zero_add, ho.cellAt j (by omega)]
    simp [bcells, hx]
/-- What Split tells. -/
def SplitC (R : Option (List PVal)) (c : Int) (w : World) (e : Ending) (w' : World) : Prop :=
  Below w.heap.size w w' ∧ match R with
    | none => e = .returned (.tuple #[.slice none 0 0, .int .i64 c])
    | some xs => ∃ v, e = .returned (.tuple #[v, .int .i64 0]) ∧ OwnG RdT 5 w.heap.size w.heap.size 25 w' xs v
/-- What the region that reads a value reads beside. -/
def KlS (g : Nat) (v : Value) (w' : World) : Prop := w'.cell? ⟨g, 0, none⟩ = some v
theorem SpS.l {w wr : World} {r : List UInt8} {lv vs : Value} {xs : List PVal} (h : SpS w wr r lv xs vs) : KlS w.heap.size lv wr := box_at (j := 0) h.out.r0 rfl
def zeroK : PVal := .mk 0 0 ByteArray.empty [] [] []
theorem rd_zeroK {w : World} {S : Nat → Prop} : Rd w S zeroK [.int .i64 0, .int .i64 0, .string ByteArray.empty, .slice none 0 0, .slice none 0 0] := rd_atomK ⟨by decide, by decide⟩ ⟨by decide, by decide⟩ (by decide)

set_option maxRecDepth 100000 in
set_option maxHeartbeats 2000000 in
theorem split_calls {w : World} {bv : Value} {l : List UInt8} (hb : BytesAt w (Now w) l bv) (hT : Tabs w) (hl : l.length ≤ 17179869184) (z : Int) (hz : I64 z) :
    Calls Tryd.prog 37 #[bv, .int .i64 z] w (SplitC (if z < 0 then none else splitP l z.toNat) (if z < 0 then 1 else 4) w) := by
  have hmf : ∀ (fn : Fn) (first cap : Array Value) (w : World), (Instr.makeFunc fn first cap).run Tryd.prog w = .ok (.func fn first cap) w := fun _ _ _ _ => rfl
  have hb0 := hid hb
  obtain ⟨a, cap, rfl, hc1, hc2, _⟩ := hb
  have hT := hid (fun w' hb => Tabs.stays w w' hT hb)
  by_cases hneg : z < 0
  · rw [if_pos hneg, if_pos hneg]
    go_enter_defers Tryd.func37, Tryd.ntmps37
    go_wp2_with fail
    simp [bodyPostD, Leaves, results, Tryd.results37, go_sem]
    exact ⟨(below_new _ _).step (below_new _ _), rfl⟩
  rw [if_neg hneg, if_neg hneg]
  obtain ⟨n, rfl⟩ := Int.eq_ofNat_of_zero_le (Int.not_lt.1 hneg)
  rw [Int.toNat_natCast]
  have g1 : ¬ ((n : Int) < 0) := hneg
  unfold I64 at hz
  clear hneg
  obtain ⟨R, hR⟩ : ∃ R, R = splitP l n := ⟨_, rfl⟩
  rw [← hR]
  replace hR := hid hR
  obtain ⟨G, hG⟩ : ∃ G, G = seqK n l := ⟨_, rfl⟩
  have hgo : Hid (GoL G [] 0 (seqK (n - 0) (l.drop 0))) := by show GoL _ _ _ _; rw [Nat.sub_zero, List.drop_zero, ← hG]; exact goL_start G
  replace hG := hid hG
  obtain ⟨W3, hW3⟩ : ∃ W3, W3 = ((w.alloc (.cells #[.slice none 0 0] 22)).alloc (.cells #[.int .i64 0] 28)).alloc (.cells #[.slice a l.length cap] 111) := ⟨_, rfl⟩
  have hb3 : Hid (Below w.heap.size w W3) := by show Below _ _ _; rw [hW3]; exact ((below_new _ _).step (below_new _ _)).step (below_new _ _)
  have hs3 : Hid (SpS w W3 l (.slice none 0 0) [] (.slice none 0 0)) := by
    refine ⟨⟨?_, ?_⟩, ⟨⟨.slice a l.length cap, ?_, hb0.out.keep (fun b hb => by have : b < w.heap.size := hb; omega) (fun b hb => hb3.out.block b hb)⟩, by omega⟩, hb3.out, OwnG.nil _⟩
    · rw [hW3]; exact al_old (al_old (al_at rfl))
    · rw [hW3]; exact al_old (al_at (by simp))
    · rw [hW3]; exact al_at (by simp)
  have hval := hid (fun (w' : World) (r : List UInt8) (h : KAt w' (w.heap.size + 2) r) (hr : r.length ≤ 1099511627776) => kvalue_calls (g := w.heap.size + 2) 9 (by omega) w' r h hr)
  have e8 : ((9 : Nat) : Int) - 1 = 8 := rfl
  rw [e8] at hval
  obtain ⟨i0, hi, hz0, hz1, hz2⟩ := info_parts info52
  go_enter_defers Tryd.func37, Tryd.ntmps37
  go_wp2_with fail
  rw [← hW3]
  clear hW3 hb3
  go_loopg [18] n (fun gh s18 wr => ∃ (j c : Nat) (xs : List PVal) (vs : Value), gh + j = n ∧ s18 = .int .i64 j ∧ xs.length = j ∧ j ≤ c ∧ c ≤ l.length ∧ Hid (GoL G xs c (seqK (n - j) (l.drop c))) ∧ Hid (SpS w wr (l.drop c) vs xs vs))
  case atStart => exact ⟨0, 0, [], _, by omega, rfl, rfl, by omega, by omega, hgo, hs3⟩
  case round =>
    clear hgo hs3
    obtain ⟨_, c, xs, vs, hj, rfl, rfl, hjc, hcl, hgo, hsp⟩ := hrel
    obtain ⟨va, vc, rfl, hvc⟩ := hsp.out.own.form
    by_cases hlt : xs.length < n
    · rw [show n - xs.length = (n - (xs.length + 1)) + 1 by omega] at hgo
      have hst := goS_step hgo.out
      have hlen : (l.drop c).length ≤ 1099511627776 := by rw [List.length_drop]; omega
      cases hk : keyR false 9 (l.drop c) with
      | none =>
        rw [hk] at hst
        have hno : Hid (R = none) := by show _ = _; rw [hR.out]; unfold splitP; rw [← hG.out, hst]
        have hv : Hid (∀ (w' : World), KAt w' (w.heap.size + 2) (l.drop c) → Calls Tryd.prog 83 #[.pointer (some ⟨w.heap.size + 2, 0, none⟩), .int .i64 8] w' (ToldK none (GiveK w'.heap.size) w' (w.heap.size + 2) (l.drop c))) := fun w' h => by
          have := hval.out w' _ h hlen
          rwa [hk] at this
        clear hst hgo hk
        go_upto_region 7 with fail
        refine wp_region_T (KlS w.heap.size (.slice va xs.length vc)) 5 (by kernel_rfl) ?_
        have hS0 : KlS w.heap.size (.slice va xs.length vc) wr.drew := hsp.out.drew.l
        ((refine wpAnyT_take (i := 0) (v := ?_) rfl (by kernel_rfl) (by kernel_rfl) (by kernel_rfl) (by kernel_rfl) (fun c a w h => split_put (by decide) (by decide) h) (Or.inl ⟨by kernel_rfl, ?_⟩) hS0 ?_; rotate_left 1; focus (intro w hSw; unfold KlS at hSw; (try dsimp only at hSw); go_simp; try with_reducible rfl); (try simp only [List.getElem_toArray, List.getElem_cons_zero, List.getElem_cons_succ, Act.put, List.setIfInBounds_toArray, List.set_cons_zero, List.set_cons_succ])); (refine wpAnyT_take (i := 1) (v := ?_) rfl (by kernel_rfl) (by kernel_rfl) (by kernel_rfl) (by kernel_rfl) (fun c a w h => split_put (by decide) (by decide) h) (Or.inl ⟨by kernel_rfl, ?_⟩) hS0 ?_; rotate_left 1; focus (intro w hSw; unfold KlS at hSw; (try dsimp only at hSw); go_simp; try with_reducible rfl); (try simp only [List.getElem_toArray, List.getElem_cons_zero, List.getElem_cons_succ, Act.put, List.setIfInBounds_toArray, List.set_cons_zero, List.set_cons_succ])); (refine wpAnyT_take (i := 3) (v := ?_) rfl (by kernel_rfl) (by kernel_rfl) (by kernel_rfl) (by kernel_rfl) (fun c a w h => split_put (by decide) (by decide) h) (Or.inl ⟨by kernel_rfl, ?_⟩) hS0 ?_; rotate_left 1; focus (intro w hSw; unfold KlS at hSw; (try dsimp only at hSw); go_simp; try with_reducible rfl); (try simp only [List.getElem_toArray, List.getElem_cons_zero, List.getElem_cons_succ, Act.put, List.setIfInBounds_toArray, List.set_cons_zero, List.set_cons_succ])))
        refine wpAnyT_two (i := 2) (j := 4) (by kernel_rfl) rfl rfl (fun K hK => ?_) (fun K hK => ?_)
        · go_simp
          refine (hv.out _ hsp.out.drew.at_).mono ?_
          rintro e w5 ⟨hs5, rfl⟩
          go_simp
          have hb5 := hid (hsp.out.drew.low.trans (hs5.below (by omega) hsp.out.drew.at_.lt))
          have ho5 := hid (hsp.out.drew.out.save hs5 (by omega) (by omega))
          clear hs5
          refine leaves_cons (f := 82) (args := #[.pointer (some ⟨w.heap.size, 0, none⟩), .pointer (some ⟨w.heap.size + 1, 0, none⟩)]) (by simp) (by simp [go_sem]) ?_
          refine (split_caught w.heap.size 4 [] _ _ _ ho5.out).mono ?_
          rintro e u' w6 ⟨rfl, rfl, hb6, ho6⟩
          have z0 := box_at (j := 0) ho6.r0 rfl
          have z1 := box_at (j := 0) ho6.r1 rfl
          rw [hno.out]
          simp [Leaves, settle, results, Tryd.results37, go_sem, z0, z1]
          exact ⟨hb5.out.trans hb6, rfl⟩
        · go_simp
          have hsp2 := hid (hsp.out.drew.later (below_new _ (.cells #[.int .i64 0, .int .i64 0, .string ⟨#[]⟩, .slice none 0 0, .slice none 0 0] 25)))
          (refine hK.out _ _ (fun _ => hsp2.out.l) (fun _ => ?_); clear hK K; (try simp only [Act.put, List.setIfInBounds_toArray, List.set_cons_zero, List.set_cons_succ]))
          refine wpAnyT_one (i := 2) (by kernel_rfl) rfl (fun K hK => ?_)
          go_simp
          refine (hv.out _ hsp2.out.at_).mono ?_
          rintro e w5 ⟨hs5, rfl⟩
          go_simp
          have hb5 := hid (hsp2.out.low.trans (hs5.below (by omega) hsp2.out.at_.lt))
          have ho5 := hid (hsp2.out.out.save hs5 (by omega) (by omega))
          clear hs5
          refine leaves_cons (f := 82) (args := #[.pointer (some ⟨w.heap.size, 0, none⟩), .pointer (some ⟨w.heap.size + 1, 0, none⟩)]) (by simp) (by simp [go_sem]) ?_
          refine (split_caught w.heap.size 4 [] _ _ _ ho5.out).mono ?_
          rintro e u' w6 ⟨rfl, rfl, hb6, ho6⟩
          have z0 := box_at (j := 0) ho6.r0 rfl
          have z1 := box_at (j := 0) ho6.r1 rfl
          rw [hno.out]
          simp [Leaves, settle, results, Tryd.results37, go_sem, z0, z1]
          exact ⟨hb5.out.trans hb6, rfl⟩
      | some q =>
        obtain ⟨x, k⟩ := q
        rw [hk] at hst
        have hkl := (keyR_le false 9 _ _ _ hk).2
        rw [List.length_drop] at hkl
        have hv : Hid (∀ (w' : World), KAt w' (w.heap.size + 2) (l.drop c) → Calls Tryd.prog 83 #[.pointer (some ⟨w.heap.size + 2, 0, none⟩), .int .i64 8] w' (ToldK (some (x, k)) (GiveK w'.heap.size) w' (w.heap.size + 2) (l.drop c))) := fun w' h => by
          have := hval.out w' _ h hlen
          rwa [hk] at this
        simp only [List.drop_drop] at hst
        replace hst := hid hst
        clear hgo hk
        go_upto_region 7 with fail
        obtain ⟨xk, xn, xt, xl, xfn, xfv⟩ := x
        refine wp_region_T (KlS w.heap.size (.slice va xs.length vc)) 5 (by kernel_rfl) ?_
        have hS0 : KlS w.heap.size (.slice va xs.length vc) wr.drew := hsp.out.drew.l
        ((refine wpAnyT_take (i := 0) (v := ?_) rfl (by kernel_rfl) (by kernel_rfl) (by kernel_rfl) (by kernel_rfl) (fun c a w h => split_put (by decide) (by decide) h) (Or.inl ⟨by kernel_rfl, ?_⟩) hS0 ?_; rotate_left 1; focus (intro w hSw; unfold KlS at hSw; (try dsimp only at hSw); go_simp; try with_reducible rfl); (try simp only [List.getElem_toArray, List.getElem_cons_zero, List.getElem_cons_succ, Act.put, List.setIfInBounds_toArray, List.set_cons_zero, List.set_cons_succ])); (refine wpAnyT_take (i := 1) (v := ?_) rfl (by kernel_rfl) (by kernel_rfl) (by kernel_rfl) (by kernel_rfl) (fun c a w h => split_put (by decide) (by decide) h) (Or.inl ⟨by kernel_rfl, ?_⟩) hS0 ?_; rotate_left 1; focus (intro w hSw; unfold KlS at hSw; (try dsimp only at hSw); go_simp; try with_reducible rfl); (try simp only [List.getElem_toArray, List.getElem_cons_zero, List.getElem_cons_succ, Act.put, List.setIfInBounds_toArray, List.set_cons_zero, List.set_cons_succ])); (refine wpAnyT_take (i := 3) (v := ?_) rfl (by kernel_rfl) (by kernel_rfl) (by kernel_rfl) (by kernel_rfl) (fun c a w h => split_put (by decide) (by decide) h) (Or.inl ⟨by kernel_rfl, ?_⟩) hS0 ?_; rotate_left 1; focus (intro w hSw; unfold KlS at hSw; (try dsimp only at hSw); go_simp; try with_reducible rfl); (try simp only [List.getElem_toArray, List.getElem_cons_zero, List.getElem_cons_succ, Act.put, List.setIfInBounds_toArray, List.set_cons_zero, List.set_cons_succ])))
        have hcl2 : Hid (xs.length + 1 ≤ 17179869184) := by show _ ≤ _; omega
        refine wpAnyT_two (i := 2) (j := 4) (by kernel_rfl) rfl rfl (fun K hK => ?_) (fun K hK => ?_)
        rotate_left 1
        · go_simp
          have hsp2 := hid (hsp.out.drew.later (below_new _ (.cells #[.int .i64 0, .int .i64 0, .string ⟨#[]⟩, .slice none 0 0, .slice none 0 0] 25)))
          have hz2 := hid (cells_new wr.drew _ rfl [.int .i64 0, .int .i64 0, .string ⟨#[]⟩, .slice none 0 0, .slice none 0 0] 25)
          (refine hK.out _ _ (fun _ => hsp2.out.l) (fun _ => ?_); clear hK K; (try simp only [Act.put, List.setIfInBounds_toArray, List.set_cons_zero, List.set_cons_succ]))
          refine wpAnyT_one (i := 2) (by kernel_rfl) rfl (fun K hK => ?_)
          go_simp
          refine (hv.out _ hsp2.out.at_).mono ?_
          rintro e w7 ⟨hs7, v7, rfl, ⟨cs7, rfl, hr7⟩, ha7⟩
          obtain ⟨ya, yc, ua, uc, rfl, _⟩ := hr7.inv
          go_simp
          have hsp7 := hid (hsp2.out.call hs7 ha7)
          have hsz7 := hsp2.out.size
          have hX7 : Hid (Rd w7 (Apart (w.heap.size + 3) w7 (.slice va xs.length vc)) (.mk xk xn xt xl xfn xfv) [.int .i64 xk, .int .i64 xn, .string xt, .slice ya xl.length yc, .slice ua xfv.length uc]) :=
            hr7.keep (fun b hb => ⟨by have := hb.1; omega, hb.2, fun e => by have := (hsp2.out.own.lt b e).2; have := hb.1; omega⟩) (fun _ _ => rfl)
          have hz7 : Hid (∀ j u, [Value.int .i64 0, .int .i64 0, .string ⟨#[]⟩, .slice none 0 0, .slice none 0 0][j]? = some u → w7.cell? ((⟨wr.heap.size, 0, none⟩ : Addr).add j) = some u) := fun j u hu => by
            have h1 := hz2.out j u hu
            rw [addr_at] at h1 ⊢
            exact (World.cell?_of_block (hs7.block wr.heap.size (by simp) (by have := hsp.out.size; omega))).trans h1
          (refine hK.out _ _ (fun _ => hsp7.out.l) (fun _ => ?_); clear hK K; (try simp only [Act.put, List.setIfInBounds_toArray, List.set_cons_zero, List.set_cons_succ]))
          clear hs7 hr7 ha7 hz2 hsp2 hS0
          refine wpAnyT_one (i := 5) (by kernel_rfl) rfl (fun K hK => ?_)
          refine step_append_g valRel _ rfl _ _ 22 rfl (w.heap.size + 3) (w.heap.size + 3) 25 80 i0 _ Tryd.underlying22 hi hz0 hz1 hz2 rfl (by decide) xs (.slice va xs.length vc) rfl hsp7.out.own ⟨wr.heap.size, 0, none⟩ 1 [.int .i64 0, .int .i64 0, .string ⟨#[]⟩, .slice none 0 0, .slice none 0 0] zeroK rfl hz7.out rd_zeroK (by have := hcl2.out; omega) (by have := hcl2.out; unfold maxLen; omega) hsp7.out.size ?_
          intro v8 w8 hown8 hg8 hlow8 hst8
          have hsp8 := hid (hsp7.out.push hown8 hg8)
          have hX8 := hX7.out.keep (w' := w8) (S' := Apart (w.heap.size + 3) w8 v8) (fun b hb => ⟨hb.1, Nat.lt_of_lt_of_le hb.2.1 hg8.size, fun e => by
            rcases hlow8 b e with h6 | h6
            · exact hb.2.2 h6
            · have := hb.2.1; omega⟩) (fun b hb => hg8.block b hb.2.1 (fun e => hb.2.2 e.symm))
          (refine hK.out _ _ (fun h => absurd h (by decide)) (fun _ => ?_); clear hK K; (try simp only [Act.put, List.setIfInBounds_toArray]))
          clear hst8 hlow8 hg8 hz7 hX7 hsp7
          obtain ⟨g8, cap8, rfl, hcap8⟩ : ∃ g8 cap8, v8 = .slice (some ⟨g8, 0, none⟩) (xs.length + 1) cap8 ∧ xs.length + 1 ≤ cap8 := by
            rcases hown8.row valRel with ⟨_, h0⟩ | ⟨g, cap, hv, hc, _⟩
            · simp at h0
            · rw [List.length_append, List.length_singleton] at hv hc
              exact ⟨g, cap, hv, hc⟩
          have hX8' := hid hX8
          clear hX8
          replace hX8 := hX8'
          obtain ⟨⟨u0, k0⟩, ⟨u1, k1⟩, ⟨u2, k2⟩, ⟨u3, k3⟩, ⟨u4, k4⟩, fz8, hgB⟩ := hsp8.out.cells
          have z0 := box_at (j := 0) hsp8.out.out.r0 rfl
          have fzl := box_free hsp8.out.out.r0 0
          clear hown8
          have j1 : (xs.length : Int) < (xs.length : Int) + 1 := by omega
          refine wpAnyT_two (i := 6) (j := 8) (by kernel_rfl) rfl rfl (fun K hK => ?_) (fun K hK => ?_)
          · go_simp
            (refine hK.out _ _ (fun h => absurd h (by decide)) (fun _ => ?_); clear hK K; (try simp only [Act.put, List.setIfInBounds_toArray, List.set_cons_zero, List.set_cons_succ]))
            refine wpAnyT_two (i := 7) (j := 8) (by kernel_rfl) rfl rfl (fun K hK => ?_) (fun K hK => ?_)
            · go_simp
              have hsp9 := hid (hsp8.out.fill hX8.out)
              unfold setAt5 at hsp9
              clear k0 k1 k2 k3 k4 z0 fzl fz8
              generalize ((((w8.setCell ⟨g8, xs.length * 5, none⟩ (.int .i64 xk)).setCell ⟨g8, xs.length * 5 + 1, none⟩ (.int .i64 xn)).setCell ⟨g8, xs.length * 5 + 2, none⟩ (.string xt)).setCell ⟨g8, xs.length * 5 + 3, none⟩ (.slice ya xl.length yc)).setCell ⟨g8, xs.length * 5 + 4, none⟩ (.slice ua xfv.length uc) = w9 at *
              have z0 := box_at (j := 0) hsp9.out.out.r0 rfl
              have fzl := box_free hsp9.out.out.r0 0
              (refine hK.out _ _ (fun h => absurd h (by decide)) (fun _ => ?_); clear hK K; (try simp only [Act.put, List.setIfInBounds_toArray]))
              refine wpAnyT_one (i := 8) (by kernel_rfl) rfl (fun K hK => ?_)
              go_simp
              have hsp10 := hid (hsp9.out.setl (.slice (some ⟨g8, 0, none⟩) (xs.length + 1) cap8))
              rw [List.drop_drop] at hsp10
              (refine hK.out _ _ (fun h => absurd h (by decide)) (fun _ => ?_); clear hK K; (try simp only [Act.put, List.setIfInBounds_toArray]))
              refine wpAnyT_done (by kernel_rfl) ?_ _
              go_wp2_with fail
              go_roundg (n - (xs.length + 1))
              case measure => omega
              case rel => exact ⟨xs.length + 1, c + k, _, _, by omega, by go_num, by simp, by omega, by omega, hst, hsp10⟩
            · go_simp
              have hspl := hid (hsp8.out.setl (.slice (some ⟨g8, 0, none⟩) (xs.length + 1) cap8))
              have hXl := hid (hX8.out.keep (w' := w8.setCell ⟨w.heap.size, 0, none⟩ (.slice (some ⟨g8, 0, none⟩) (xs.length + 1) cap8)) (S' := Apart (w.heap.size + 3) (w8.setCell ⟨w.heap.size, 0, none⟩ (.slice (some ⟨g8, 0, none⟩) (xs.length + 1) cap8)) (.slice (some ⟨g8, 0, none⟩) (xs.length + 1) cap8)) (fun b hb => ⟨hb.1, by have := hb.2.1; simpa [World.setCell] using this, hb.2.2⟩) (fun b hb => Below.heap_setCell _ _ _ _ (by have := hb.1; simp; omega)))
              clear k0 k1 k2 k3 k4 z0 fzl fz8
              generalize w8.setCell ⟨w.heap.size, 0, none⟩ (.slice (some ⟨g8, 0, none⟩) (xs.length + 1) cap8) = wl at *
              obtain ⟨⟨u0, k0⟩, ⟨u1, k1⟩, ⟨u2, k2⟩, ⟨u3, k3⟩, ⟨u4, k4⟩, fz8, _⟩ := hspl.out.cells
              (refine hK.out _ _ (fun h => absurd h (by decide)) (fun _ => ?_); clear hK K; (try simp only [Act.put, List.setIfInBounds_toArray]))
              refine wpAnyT_one (i := 7) (by kernel_rfl) rfl (fun K hK => ?_)
              go_simp
              have hsp9 := hid (hspl.out.fill hXl.out)
              unfold setAt5 at hsp9
              clear k0 k1 k2 k3 k4 fz8
              generalize ((((wl.setCell ⟨g8, xs.length * 5, none⟩ (.int .i64 xk)).setCell ⟨g8, xs.length * 5 + 1, none⟩ (.int .i64 xn)).setCell ⟨g8, xs.length * 5 + 2, none⟩ (.string xt)).setCell ⟨g8, xs.length * 5 + 3, none⟩ (.slice ya xl.length yc)).setCell ⟨g8, xs.length * 5 + 4, none⟩ (.slice ua xfv.length uc) = w9 at *
              rw [List.drop_drop] at hsp9
              (refine hK.out _ _ (fun h => absurd h (by decide)) (fun _ => ?_); clear hK K; (try simp only [Act.put, List.setIfInBounds_toArray]))
              refine wpAnyT_done (by kernel_rfl) ?_ _
              go_wp2_with fail
              go_roundg (n - (xs.length + 1))
              case measure => omega
              case rel => exact ⟨xs.length + 1, c + k, _, _, by omega, by go_num, by simp, by omega, by omega, hst, hsp9⟩
          · go_simp
            have hspl := hid (hsp8.out.setl (.slice (some ⟨g8, 0, none⟩) (xs.length + 1) cap8))
            have hXl := hid (hX8.out.keep (w' := w8.setCell ⟨w.heap.size, 0, none⟩ (.slice (some ⟨g8, 0, none⟩) (xs.length + 1) cap8)) (S' := Apart (w.heap.size + 3) (w8.setCell ⟨w.heap.size, 0, none⟩ (.slice (some ⟨g8, 0, none⟩) (xs.length + 1) cap8)) (.slice (some ⟨g8, 0, none⟩) (xs.length + 1) cap8)) (fun b hb => ⟨hb.1, by have := hb.2.1; simpa [World.setCell] using this, hb.2.2⟩) (fun b hb => Below.heap_setCell _ _ _ _ (by have := hb.1; simp; omega)))
            clear k0 k1 k2 k3 k4 z0 fzl fz8
            generalize w8.setCell ⟨w.heap.size, 0, none⟩ (.slice (some ⟨g8, 0, none⟩) (xs.length + 1) cap8) = wl at *
            obtain ⟨⟨u0, k0⟩, ⟨u1, k1⟩, ⟨u2, k2⟩, ⟨u3, k3⟩, ⟨u4, k4⟩, fz8, _⟩ := hspl.out.cells
            (refine hK.out _ _ (fun h => absurd h (by decide)) (fun _ => ?_); clear hK K; (try simp only [Act.put, List.setIfInBounds_toArray]))
            refine wpAnyT_one (i := 6) (by kernel_rfl) rfl (fun K hK => ?_)
            go_simp
            (refine hK.out _ _ (fun h => absurd h (by decide)) (fun _ => ?_); clear hK K; (try simp only [Act.put, List.setIfInBounds_toArray, List.set_cons_zero, List.set_cons_succ]))
            refine wpAnyT_one (i := 7) (by kernel_rfl) rfl (fun K hK => ?_)
            go_simp
            have hsp9 := hid (hspl.out.fill hXl.out)
            unfold setAt5 at hsp9
            clear k0 k1 k2 k3 k4 fz8
            generalize ((((wl.setCell ⟨g8, xs.length * 5, none⟩ (.int .i64 xk)).setCell ⟨g8, xs.length * 5 + 1, none⟩ (.int .i64 xn)).setCell ⟨g8, xs.length * 5 + 2, none⟩ (.string xt)).setCell ⟨g8, xs.length * 5 + 3, none⟩ (.slice ya xl.length yc)).setCell ⟨g8, xs.length * 5 + 4, none⟩ (.slice ua xfv.length uc) = w9 at *
            rw [List.drop_drop] at hsp9
            (refine hK.out _ _ (fun h => absurd h (by decide)) (fun _ => ?_); clear hK K; (try simp only [Act.put, List.setIfInBounds_toArray]))
            refine wpAnyT_done (by kernel_rfl) ?_ _
            go_wp2_with fail
            go_roundg (n - (xs.length + 1))
            case measure => omega
            case rel => exact ⟨xs.length + 1, c + k, _, _, by omega, by go_num, by simp, by omega, by omega, hst, hsp9⟩
        · go_simp
          refine (hv.out _ hsp.out.drew.at_).mono ?_
          rintro e w5 ⟨hs5, v5, rfl, ⟨cs5, rfl, hr5⟩, ha5⟩
          obtain ⟨ya, yc, ua, uc, rfl, _⟩ := hr5.inv
          go_simp
          have hsp5 := hid (hsp.out.drew.call hs5 ha5)
          have hsz5 := hsp.out.size
          have hX5 : Hid (Rd w5 (Apart (w.heap.size + 3) w5 (.slice va xs.length vc)) (.mk xk xn xt xl xfn xfv) [.int .i64 xk, .int .i64 xn, .string xt, .slice ya xl.length yc, .slice ua xfv.length uc]) :=
            hr5.keep (fun b hb => ⟨by have : wr.heap.size ≤ b := hb.1; omega, hb.2, fun e => by have := (hsp.out.own.lt b e).2; have : wr.heap.size ≤ b := hb.1; omega⟩) (fun _ _ => rfl)
          (refine hK.out _ _ (fun _ => hsp5.out.l) (fun _ => ?_); clear hK K; (try simp only [Act.put, List.setIfInBounds_toArray, List.set_cons_zero, List.set_cons_succ]))
          refine wpAnyT_one (i := 4) (by kernel_rfl) rfl (fun K hK => ?_)
          go_simp
          have hsp7 := hid (hsp5.out.later (below_new _ (.cells #[.int .i64 0, .int .i64 0, .string ⟨#[]⟩, .slice none 0 0, .slice none 0 0] 25)))
          have hz7 := hid (cells_new w5 _ rfl [.int .i64 0, .int .i64 0, .string ⟨#[]⟩, .slice none 0 0, .slice none 0 0] 25)
          have hX7 := hid (hX5.out.keep (w' := w5.alloc (.cells #[.int .i64 0, .int .i64 0, .string ⟨#[]⟩, .slice none 0 0, .slice none 0 0] 25)) (S' := Apart (w.heap.size + 3) (w5.alloc (.cells #[.int .i64 0, .int .i64 0, .string ⟨#[]⟩, .slice none 0 0, .slice none 0 0] 25)) (.slice va xs.length vc)) (fun b hb => ⟨hb.1, by have := hb.2.1; simp; omega, hb.2.2⟩) (fun b hb => (below_new w5 _).block b hb.2.1))
          (refine hK.out _ _ (fun _ => hsp7.out.l) (fun _ => ?_); clear hK K; (try simp only [Act.put, List.setIfInBounds_toArray, List.set_cons_zero, List.set_cons_succ]))
          clear hs5 hr5 ha5 hX5 hsp5 hS0
          refine wpAnyT_one (i := 5) (by kernel_rfl) rfl (fun K hK => ?_)
          refine step_append_g valRel _ rfl _ _ 22 rfl (w.heap.size + 3) (w.heap.size + 3) 25 80 i0 _ Tryd.underlying22 hi hz0 hz1 hz2 rfl (by decide) xs (.slice va xs.length vc) rfl hsp7.out.own ⟨w5.heap.size, 0, none⟩ 1 [.int .i64 0, .int .i64 0, .string ⟨#[]⟩, .slice none 0 0, .slice none 0 0] zeroK rfl hz7.out rd_zeroK (by have := hcl2.out; omega) (by have := hcl2.out; unfold maxLen; omega) hsp7.out.size ?_
          intro v8 w8 hown8 hg8 hlow8 hst8
          have hsp8 := hid (hsp7.out.push hown8 hg8)
          have hX8 := hX7.out.keep (w' := w8) (S' := Apart (w.heap.size + 3) w8 v8) (fun b hb => ⟨hb.1, Nat.lt_of_lt_of_le hb.2.1 hg8.size, fun e => by
            rcases hlow8 b e with h6 | h6
            · exact hb.2.2 h6
            · have := hb.2.1; omega⟩) (fun b hb => hg8.block b hb.2.1 (fun e => hb.2.2 e.symm))
          (refine hK.out _ _ (fun h => absurd h (by decide)) (fun _ => ?_); clear hK K; (try simp only [Act.put, List.setIfInBounds_toArray]))
          clear hst8 hlow8 hg8 hz7 hX7 hsp7
          obtain ⟨g8, cap8, rfl, hcap8⟩ : ∃ g8 cap8, v8 = .slice (some ⟨g8, 0, none⟩) (xs.length + 1) cap8 ∧ xs.length + 1 ≤ cap8 := by
            rcases hown8.row valRel with ⟨_, h0⟩ | ⟨g, cap, hv, hc, _⟩
            · simp at h0
            · rw [List.length_append, List.length_singleton] at hv hc
              exact ⟨g, cap, hv, hc⟩
          have hX8' := hid hX8
          clear hX8
          replace hX8 := hX8'
          obtain ⟨⟨u0, k0⟩, ⟨u1, k1⟩, ⟨u2, k2⟩, ⟨u3, k3⟩, ⟨u4, k4⟩, fz8, hgB⟩ := hsp8.out.cells
          have z0 := box_at (j := 0) hsp8.out.out.r0 rfl
          have fzl := box_free hsp8.out.out.r0 0
          clear hown8
          have j1 : (xs.length : Int) < (xs.length : Int) + 1 := by omega
          refine wpAnyT_two (i := 6) (j := 8) (by kernel_rfl) rfl rfl (fun K hK => ?_) (fun K hK => ?_)
          · go_simp
            (refine hK.out _ _ (fun h => absurd h (by decide)) (fun _ => ?_); clear hK K; (try simp only [Act.put, List.setIfInBounds_toArray, List.set_cons_zero, List.set_cons_succ]))
            refine wpAnyT_two (i := 7) (j := 8) (by kernel_rfl) rfl rfl (fun K hK => ?_) (fun K hK => ?_)
            · go_simp
              have hsp9 := hid (hsp8.out.fill hX8.out)
              unfold setAt5 at hsp9
              clear k0 k1 k2 k3 k4 z0 fzl fz8
              generalize ((((w8.setCell ⟨g8, xs.length * 5, none⟩ (.int .i64 xk)).setCell ⟨g8, xs.length * 5 + 1, none⟩ (.int .i64 xn)).setCell ⟨g8, xs.length * 5 + 2, none⟩ (.string xt)).setCell ⟨g8, xs.length * 5 + 3, none⟩ (.slice ya xl.length yc)).setCell ⟨g8, xs.length * 5 + 4, none⟩ (.slice ua xfv.length uc) = w9 at *
              have z0 := box_at (j := 0) hsp9.out.out.r0 rfl
              have fzl := box_free hsp9.out.out.r0 0
              (refine hK.out _ _ (fun h => absurd h (by decide)) (fun _ => ?_); clear hK K; (try simp only [Act.put, List.setIfInBounds_toArray]))
              refine wpAnyT_one (i := 8) (by kernel_rfl) rfl (fun K hK => ?_)
              go_simp
              have hsp10 := hid (hsp9.out.setl (.slice (some ⟨g8, 0, none⟩) (xs.length + 1) cap8))
              rw [List.drop_drop] at hsp10
              (refine hK.out _ _ (fun h => absurd h (by decide)) (fun _ => ?_); clear hK K; (try simp only [Act.put, List.setIfInBounds_toArray]))
              refine wpAnyT_done (by kernel_rfl) ?_ _
              go_wp2_with fail
              go_roundg (n - (xs.length + 1))
              case measure => omega
              case rel => exact ⟨xs.length + 1, c + k, _, _, by omega, by go_num, by simp, by omega, by omega, hst, hsp10⟩
            · go_simp
              have hspl := hid (hsp8.out.setl (.slice (some ⟨g8, 0, none⟩) (xs.length + 1) cap8))
              have hXl := hid (hX8.out.keep (w' := w8.setCell ⟨w.heap.size, 0, none⟩ (.slice (some ⟨g8, 0, none⟩) (xs.length + 1) cap8)) (S' := Apart (w.heap.size + 3) (w8.setCell ⟨w.heap.size, 0, none⟩ (.slice (some ⟨g8, 0, none⟩) (xs.length + 1) cap8)) (.slice (some ⟨g8, 0, none⟩) (xs.length + 1) cap8)) (fun b hb => ⟨hb.1, by have := hb.2.1; simpa [World.setCell] using this, hb.2.2⟩) (fun b hb => Below.heap_setCell _ _ _ _ (by have := hb.1; simp; omega)))
              clear k0 k1 k2 k3 k4 z0 fzl fz8
              generalize w8.setCell ⟨w.heap.size, 0, none⟩ (.slice (some ⟨g8, 0, none⟩) (xs.length + 1) cap8) = wl at *
              obtain ⟨⟨u0, k0⟩, ⟨u1, k1⟩, ⟨u2, k2⟩, ⟨u3, k3⟩, ⟨u4, k4⟩, fz8, _⟩ := hspl.out.cells
              (refine hK.out _ _ (fun h => absurd h (by decide)) (fun _ => ?_); clear hK K; (try simp only [Act.put, List.setIfInBounds_toArray]))
              refine wpAnyT_one (i := 7) (by kernel_rfl) rfl (fun K hK => ?_)
              go_simp
              have hsp9 := hid (hspl.out.fill hXl.out)
              unfold setAt5 at hsp9
              clear k0 k1 k2 k3 k4 fz8
              generalize ((((wl.setCell ⟨g8, xs.length * 5, none⟩ (.int .i64 xk)).setCell ⟨g8, xs.length * 5 + 1, none⟩ (.int .i64 xn)).setCell ⟨g8, xs.length * 5 + 2, none⟩ (.string xt)).setCell ⟨g8, xs.length * 5 + 3, none⟩ (.slice ya xl.length yc)).setCell ⟨g8, xs.length * 5 + 4, none⟩ (.slice ua xfv.length uc) = w9 at *
              rw [List.drop_drop] at hsp9
              (refine hK.out _ _ (fun h => absurd h (by decide)) (fun _ => ?_); clear hK K; (try simp only [Act.put, List.setIfInBounds_toArray]))
              refine wpAnyT_done (by kernel_rfl) ?_ _
              go_wp2_with fail
              go_roundg (n - (xs.length + 1))
              case measure => omega
              case rel => exact ⟨xs.length + 1, c + k, _, _, by omega, by go_num, by simp, by omega, by omega, hst, hsp9⟩
          · go_simp
            have hspl := hid (hsp8.out.setl (.slice (some ⟨g8, 0, none⟩) (xs.length + 1) cap8))
            have hXl := hid (hX8.out.keep (w' := w8.setCell ⟨w.heap.size, 0, none⟩ (.slice (some ⟨g8, 0, none⟩) (xs.length + 1) cap8)) (S' := Apart (w.heap.size + 3) (w8.setCell ⟨w.heap.size, 0, none⟩ (.slice (some ⟨g8, 0, none⟩) (xs.length + 1) cap8)) (.slice (some ⟨g8, 0, none⟩) (xs.length + 1) cap8)) (fun b hb => ⟨hb.1, by have := hb.2.1; simpa [World.setCell] using this, hb.2.2⟩) (fun b hb => Below.heap_setCell _ _ _ _ (by have := hb.1; simp; omega)))
            clear k0 k1 k2 k3 k4 z0 fzl fz8
            generalize w8.setCell ⟨w.heap.size, 0, none⟩ (.slice (some ⟨g8, 0, none⟩) (xs.length + 1) cap8) = wl at *
            obtain ⟨⟨u0, k0⟩, ⟨u1, k1⟩, ⟨u2, k2⟩, ⟨u3, k3⟩, ⟨u4, k4⟩, fz8, _⟩ := hspl.out.cells
            (refine hK.out _ _ (fun h => absurd h (by decide)) (fun _ => ?_); clear hK K; (try simp only [Act.put, List.setIfInBounds_toArray]))
            refine wpAnyT_one (i := 6) (by kernel_rfl) rfl (fun K hK => ?_)
            go_simp
            (refine hK.out _ _ (fun h => absurd h (by decide)) (fun _ => ?_); clear hK K; (try simp only [Act.put, List.setIfInBounds_toArray, List.set_cons_zero, List.set_cons_succ]))
            refine wpAnyT_one (i := 7) (by kernel_rfl) rfl (fun K hK => ?_)
            go_simp
            have hsp9 := hid (hspl.out.fill hXl.out)
            unfold setAt5 at hsp9
            clear k0 k1 k2 k3 k4 fz8
            generalize ((((wl.setCell ⟨g8, xs.length * 5, none⟩ (.int .i64 xk)).setCell ⟨g8, xs.length * 5 + 1, none⟩ (.int .i64 xn)).setCell ⟨g8, xs.length * 5 + 2, none⟩ (.string xt)).setCell ⟨g8, xs.length * 5 + 3, none⟩ (.slice ya xl.length yc)).setCell ⟨g8, xs.length * 5 + 4, none⟩ (.slice ua xfv.length uc) = w9 at *
            rw [List.drop_drop] at hsp9
            (refine hK.out _ _ (fun h => absurd h (by decide)) (fun _ => ?_); clear hK K; (try simp only [Act.put, List.setIfInBounds_toArray]))
            refine wpAnyT_done (by kernel_rfl) ?_ _
            go_wp2_with fail
            go_roundg (n - (xs.length + 1))
            case measure => omega
            case rel => exact ⟨xs.length + 1, c + k, _, _, by omega, by go_num, by simp, by omega, by omega, hst, hsp9⟩
    · obtain rfl : xs.length = n := by omega
      rw [Nat.sub_self] at hgo
      have hGx := hG.out.symm.trans (goS_end hgo.out)
      have hkc := seqK_keys _ _ _ _ hGx
      obtain ⟨hfit, hms⟩ := seqK_fits _ l xs c (by omega) hGx
      have hmx : ∀ x ∈ xs, x.mass ≤ 1000000000000 := fun x hx => by have := mass_mem hx; omega
      have hLr : RdL wr (Now wr) xs (.slice va xs.length vc) := hsp.out.own.readL (fun b hb => (hsp.out.own.lt b hb).2) (fun b hb => hb.2.1) (by omega)
      have hj1 := join_calls xs hmx (by omega) (hT.out _ hsp.out.low) hLr
      obtain ⟨J, hJ⟩ : ∃ J, badI xs = J := ⟨_, rfl⟩
      obtain ⟨K1, hK1⟩ : ∃ K1, (if J = 0 then keysP xs else []) = K1 := ⟨_, rfl⟩
      unfold Joined at hj1
      rw [hJ, hK1] at hj1
      replace hj1 := hid hj1
      replace hJ := hid hJ
      replace hK1 := hid hK1
      replace hGx := hid hGx
      have hxl : Hid (xs.length ≤ 17179869184) := by show _ ≤ _; omega
      have hmy := hid kmust_yes
      have hmn := hid kmust_no
      have z0 := box_at (j := 0) hsp.out.out.r0 rfl
      clear hgo hval hG hms hkc hmx hfit hLr
      go_wp2_with fail
      refine hj1.out.mono ?_
      rintro e w5 ⟨v5, rfl, hown5⟩
      have hsp5 := hid (hsp.out.later hown5.1)
      have hag5 := hown5.bytes
      have hB5 := hown5.1
      clear z0
      have z1 := box_at (j := 0) hsp5.out.out.r1 rfl
      have f1 := box_free hsp5.out.out.r1 0
      go_upto_region 10 with fail
      have hO6 := hid (hsp5.out.out.set1 (.int .i64 J))
      have hD6 := hid (hsp5.out.low.setCell (p := ⟨w.heap.size + 1, 0, none⟩) (by simp) (.int .i64 J))
      have hL6 := hid (hsp5.out.own.box valRel ⟨w.heap.size + 1, 0, none⟩ (.int .i64 J) (fun e => by have : w.heap.size + 3 ≤ w.heap.size + 1 := (hsp5.out.own.lt _ e).1; omega) (by simp))
      have hag6 : Hid (BytesAt (w5.setCell ⟨w.heap.size + 1, 0, none⟩ (.int .i64 J)) (Now (w5.setCell ⟨w.heap.size + 1, 0, none⟩ (.int .i64 J))) K1 v5) :=
        hag5.keep (fun b hb => by have := hb.2; show b < _; simpa [World.setCell] using this) (fun b hb => Below.heap_setCell _ _ _ _ (by have : wr.heap.size ≤ b := hb.1; have := hsp.out.size; simp; omega))
      have hsz6 : Hid (w.heap.size + 3 ≤ (w5.setCell ⟨w.heap.size + 1, 0, none⟩ (.int .i64 J)).heap.size) := by show _ ≤ _; have := hsp5.out.size; simpa [World.setCell] using this
      clear z1 f1 hown5 hag5 hB5 hj1
      generalize w5.setCell ⟨w.heap.size + 1, 0, none⟩ (.int .i64 J) = w6 at *
      clear hsp5 hsp
      have z1 := box_at (j := 0) hO6.out.r1 rfl
      by_cases hJ0 : J = 0
      · rw [if_pos hJ0] at hK1
        subst hJ0
        by_cases hkl : K1 = l
        · have hyes : Hid (R = some xs) := by
            show _ = _
            rw [hR.out]
            exact splitP_yes hGx.out hJ.out (hK1.out.trans hkl)
          have heq : (K1 == l) = true := by simp [hkl]
          clear hK1 hkl hGx hJ
          go_wp2_with fail
          refine (equal_calls hag6.out (hb0.out.later hD6.out)).mono ?_
          rintro e w7 ⟨rfl, rfl⟩
          rw [heq]
          go_wp2_with fail
          refine (hmy.out _).mono ?_
          rintro e w7 ⟨rfl, rfl⟩
          have hR6 : Hid (RdL w6 (fun b => b < w6.heap.size) xs (.slice va xs.length vc)) := hL6.out.readL (fun b hb => (hL6.out.lt b hb).2) (fun b hb => hb.2.1) (by have := hxl.out; omega)
          have hcp := hid copy_calls
          have z0 := box_at (j := 0) hO6.out.r0 rfl
          clear z1 hag6 hL6
          go_wp2_with (at_make; refine wpList_make_own _ rfl _ _ 22 rfl w6.heap.size 25 i0 _ 5 Tryd.underlying22 hi hz0 hz1 .i64 .i64 _ xs.length rfl rfl rfl (by have := hxl.out; rw [hz2]; omega) (by have := hxl.out; unfold maxLen; omega) (Nat.le_refl _) ?_; intro w8 hown8 hg8; have hB8 := hid (grown_below hg8); have ho8 := hid (OwnG.empty (R := RdT) (B := w6.heap.size) hown8); have z0 := box_at (j := 0) (hO6.out.later hB8.out).r0 rfl; clear hown8 hg8)
          go_loopg [8, 46] xs.length (fun gh s8 s46 wr => ∃ (j : Nat) (v8 : Value), gh + j = xs.length ∧ s46 = .int .i64 j ∧ v8 = s8 ∧ Hid (Below w6.heap.size w6 wr) ∧ Hid (OwnG RdT 5 w6.heap.size w6.heap.size 25 wr (xs.take j) v8))
          case atStart => exact ⟨0, _, by omega, rfl, rfl, hB8, ho8⟩
          case round =>
            clear hB8 ho8 z0
            obtain ⟨j, v8, hj, rfl, rfl, hD, hown⟩ := hrel
            by_cases hlt : j < xs.length
            · obtain ⟨x, hx⟩ : ∃ x, xs[j]? = some x := ⟨_, List.getElem?_eq_getElem hlt⟩
              obtain ⟨b, off, cs, rfl, hbg, hc, hr⟩ := (hR6.out.keep (w' := wr) (S' := fun b => b < w6.heap.size) (fun b h => h) (fun b h => hD.out.block b h)).at_ hx
              have htk := hid (take_succ_of hx)
              have htl : Hid ((xs.take j).length = j) := by show _ = _; rw [List.length_take]; omega
              obtain ⟨xk, xn, xt, xl, xfn, xfv⟩ := x
              obtain ⟨xa, xc, xb, xd, rfl, _⟩ := hr.inv
              have c0 := hc 0 _ rfl
              have c1 := hc 1 _ rfl
              have c2 := hc 2 _ rfl
              have c3 := hc 3 _ rfl
              have c4 := hc 4 _ rfl
              rw [Nat.add_zero] at c0
              replace hr := hid hr
              clear hc
              go_upto_region 15 with fail
              obtain ⟨w9, hw9⟩ : ∃ w9, w9 = wr.alloc (.cells #[.int .i64 xk, .int .i64 xn, .string xt, .slice xa xl.length xc, .slice xb xfv.length xd] 25) := ⟨_, rfl⟩
              have hn9 : Hid (Below wr.heap.size wr w9) := by show Below _ _ _; rw [hw9]; exact below_new _ _
              have r9 : w9.heap[wr.heap.size]? = some (.cells #[.int .i64 xk, .int .i64 xn, .string xt, .slice xa xl.length xc, .slice xb xfv.length xd] 25 (0, 0)) := by rw [hw9]; exact heap_alloc_new _ _
              rw [← hw9]
              clear hw9 c0 c1 c2 c3 c4
              have a0 := box_at (j := 0) r9 rfl
              have a1 := box_at (j := 1) r9 rfl
              have a2 := box_at (j := 2) r9 rfl
              have a3 := box_at (j := 3) r9 rfl
              have a4 := box_at (j := 4) r9 rfl
              clear r9
              have hr9 : Hid (Rd w9 (Now w9) _ _) := hr.out.keep (S' := Now w9) (fun b h => Nat.lt_of_lt_of_le (Nat.lt_of_lt_of_le h hD.out.size) hn9.out.size) (fun b h => hn9.out.block b (Nat.lt_of_lt_of_le h hD.out.size))
              go_wp2_with (first
                | (go_at_call 73
                   refine (hcp.out _ _ _ hr9.out).mono ?_
                   rintro e w10 ⟨cs10, rfl, hr10, hb10, ht10⟩
                   obtain ⟨ya, yc, ua, uc, rfl, _⟩ := hr10.inv
                   have hn10 := hid ((hn9.out.step hb10).step (below_new w10 (.cells #[.int .i64 xk, .int .i64 xn, .string xt, .slice ya xl.length yc, .slice ua xfv.length uc] 25)))
                   have hown10 := hid (hown.out.later thawRel hn10.out)
                   have hsz10 := hn9.out.size
                   have hX10 : Hid (RdT (w10.alloc (.cells #[.int .i64 xk, .int .i64 xn, .string xt, .slice ya xl.length yc, .slice ua xfv.length uc] 25)) (Apart w6.heap.size (w10.alloc (.cells #[.int .i64 xk, .int .i64 xn, .string xt, .slice ya xl.length yc, .slice ua xfv.length uc] 25)) v8) (.mk xk xn xt xl xfn xfv) [.int .i64 xk, .int .i64 xn, .string xt, .slice ya xl.length yc, .slice ua xfv.length uc]) :=
                     thawRel.keep (w := w10) (S := From w9.heap.size w10) (fun b hb => ⟨by have := hb.1; have := hD.out.size; omega, by have := hb.2; simp; omega, fun e => by have := (hown.out.lt b e).2; have := hb.1; omega⟩) (fun b hb => (below_new w10 _).block b hb.2) ⟨hr10, fun j ad n c hj => by
                       obtain ⟨t1, t2, t3⟩ := ht10 j ad n c hj
                       exact ⟨⟨t1, t2⟩, t3⟩⟩
                   clear hr10 hb10 ht10 hsz10 a0 a1 a2 a3 a4)
                | (at_builtin; (refine wpList_append_g thawRel _ rfl (.tmp 50) (.tmp 53) 22 rfl w6.heap.size w6.heap.size 25 80 i0 _ Tryd.underlying22 hi hz0 hz1 hz2 rfl (by decide) (xs.take j) v8 rfl hown10.out ⟨w10.heap.size, 0, none⟩ 1 [.int .i64 xk, .int .i64 xn, .string xt, .slice ya xl.length yc, .slice ua xfv.length uc] (.mk xk xn xt xl xfn xfv) rfl (cells_new _ _ rfl _ _) hX10.out (by have := htl.out; have := hxl.out; omega) (by have := htl.out; have := hxl.out; unfold maxLen; omega) (by have := hD.out.size; have := hn10.out.size; omega) ?_)
                   intro v11 w11 hown11 hg11 hlow11 hst11
                   have hD11 := hid ((hD.out.step hn10.out).grown hg11 (hD.out.step hn10.out).size (fun k hk => (hown10.out.lt k hk).1))
                   clear hg11 hlow11 hst11))
              go_roundg (xs.length - (j + 1))
              case measure => omega
              case rel => exact ⟨j + 1, v11, by omega, by go_num, rfl, hD11, by rw [htk.out]; exact hown11⟩
            · have hj2 : xs.take j = xs := List.take_of_length_le (by omega)
              rw [hj2] at hown
              have hO := hO6.out.below hD.out (by have := hsz6.out; omega)
              obtain ⟨a8, m8, n8, rfl⟩ := own_sliceK hown.out
              have z0 := box_at (j := 0) hO.r0 rfl
              have z1 := box_at (j := 0) hO.r1 rfl
              have f0 := box_free hO.r0 0
              have f1 := box_free hO.r1 0
              have hO12 := hid ((hO.set0 (.slice a8 m8 n8)).set1 (.int .i64 0))
              have hD12 := hid (((hD6.out.trans (hD.out.mono (by have := hsz6.out; omega))).setCell (p := ⟨w.heap.size, 0, none⟩) (Nat.le_refl _) (.slice a8 m8 n8)).setCell (p := ⟨w.heap.size + 1, 0, none⟩) (by simp) (.int .i64 0))
              have hw12 := hid (((hown.out.box thawRel ⟨w.heap.size, 0, none⟩ (.slice a8 m8 n8) (fun e => by have : w6.heap.size ≤ w.heap.size := (hown.out.lt _ e).1; have := hsz6.out; omega) (by have := hsz6.out; show w.heap.size < _; omega)).box thawRel ⟨w.heap.size + 1, 0, none⟩ (.int .i64 0) (fun e => by have : w6.heap.size ≤ w.heap.size + 1 := (hown.out.lt _ e).1; have := hsz6.out; omega) (by have := hsz6.out; show w.heap.size + 1 < _; omega)).base thawRel (A' := w.heap.size) (B' := w.heap.size) (by have := hsz6.out; omega) (by have := hsz6.out; omega))
              clear hO
              go_wp2_with fail
              generalize (wr.setCell ⟨w.heap.size, 0, none⟩ (.slice a8 m8 n8)).setCell ⟨w.heap.size + 1, 0, none⟩ (.int .i64 0) = w12 at *
              refine leaves_cons (f := 82) (args := #[.pointer (some ⟨w.heap.size, 0, none⟩), .pointer (some ⟨w.heap.size + 1, 0, none⟩)]) (by simp) (by simp [go_sem]) ?_
              refine (split_idle _ _ w12).mono ?_
              rintro e u' w13 ⟨rfl, rfl, rfl⟩
              clear z0 z1 f0 f1
              have z0 := box_at (j := 0) hO12.out.r0 rfl
              have z1 := box_at (j := 0) hO12.out.r1 rfl
              rw [hyes.out]
              simp [Leaves, settle, results, Tryd.results37, go_sem, z0, z1]
              exact ⟨hD12.out, _, rfl, hw12.out⟩
        · have hno : Hid (R = none) := by
            show _ = _
            rw [hR.out]
            exact splitP_no hGx.out (fun h => hkl (hK1.out.symm.trans h.2))
          have heq : (K1 == l) = false := by simp [hkl]
          clear hK1 hkl hGx hJ
          go_wp2_with fail
          refine (equal_calls hag6.out (hb0.out.later hD6.out)).mono ?_
          rintro e w7 ⟨rfl, rfl⟩
          rw [heq]
          go_wp2_with fail
          refine (hmn.out _).mono ?_
          rintro e w7 ⟨rfl, rfl⟩
          go_wp2_with fail
          have hbX := hid (hD6.out)
          have hoX := hid (hO6.out)
          refine leaves_cons (f := 82) (args := #[.pointer (some ⟨w.heap.size, 0, none⟩), .pointer (some ⟨w.heap.size + 1, 0, none⟩)]) (by simp) (by simp [go_sem]) ?_
          refine (split_caught w.heap.size 4 [] _ _ _ hoX.out).mono ?_
          rintro e u' wZ ⟨rfl, rfl, hbZ, hoZ⟩
          have z0 := box_at (j := 0) hoZ.r0 rfl
          have z1 := box_at (j := 0) hoZ.r1 rfl
          rw [hno.out]
          simp [Leaves, settle, results, Tryd.results37, go_sem, z0, z1]
          exact ⟨hbX.out.trans hbZ, rfl⟩
      · have hJb : (J == 0) = false := by simp [hJ0]
        have hno : Hid (R = none) := by
          show _ = _
          rw [hR.out]
          exact splitP_no hGx.out (fun h => hJ0 (hJ.out.symm.trans h.1))
        clear hK1 hGx hJ
        go_wp2_with fail
        refine (hmn.out _).mono ?_
        rintro e w7 ⟨rfl, rfl⟩
        go_wp2_with fail
        have hbX := hid (hD6.out)
        have hoX := hid (hO6.out)
        refine leaves_cons (f := 82) (args := #[.pointer (some ⟨w.heap.size, 0, none⟩), .pointer (some ⟨w.heap.size + 1, 0, none⟩)]) (by simp) (by simp [go_sem]) ?_
        refine (split_caught w.heap.size 4 [] _ _ _ hoX.out).mono ?_
        rintro e u' wZ ⟨rfl, rfl, hbZ, hoZ⟩
        have z0 := box_at (j := 0) hoZ.r0 rfl
        have z1 := box_at (j := 0) hoZ.r1 rfl
        rw [hno.out]
        simp [Leaves, settle, results, Tryd.results37, go_sem, z0, z1]
        exact ⟨hbX.out.trans hbZ, rfl⟩
end Go.Proofs.YtihcegakghmdfaaDoor

namespace Go.Proofs.YtihcegakghmdfaaDoor
open Go.RowKit Go.Proofs

def none5K : Array Value := #[.int .i64 0, .int .i64 0, .string ByteArray.empty, .slice none 0 0, .slice none 0 0]
/-- The one value of some. -/
def theOne : Option (List PVal) → PVal
  | some (x :: _) => x
  | _ => zeroK
def err4 : Option (List PVal) → Int
  | some _ => 0
  | none => 4
theorem splitP_len {l : List UInt8} {n : Nat} {xs : List PVal} (h : splitP l n = some xs) : xs.length = n := by
  obtain ⟨c, h1, _⟩ := splitP_is h
  exact (seqK_len _ _ _ _ h1).1

set_option maxRecDepth 100000 in
set_option maxHeartbeats 2000000 in
/-- What Back tells. -/
theorem back_tells {w : World} {bv : Value} {l : List UInt8} (hb : BytesAt w (Now w) l bv) (hT : Tabs w) (hl : l.length ≤ 17179869184) :
    Calls Tryd.prog 19 #[bv] w fun e w' => ∃ cs, e = .returned (.tuple #[.agg cs.toArray, .int .i64 (err4 (splitP l 1))]) ∧ Below w.heap.size w w' ∧ Rd w' (From w.heap.size w') (theOne (splitP l 1)) cs ∧ Thaw w.heap.size w' cs := by
  have hsp := hid (fun (w' : World) (h : Below w.heap.size w w') => split_calls (hb.later h) (Tabs.stays w w' hT h) hl 1 (by unfold I64; omega))
  have e1 : (if (1 : Int) < 0 then none else splitP l (1 : Int).toNat) = splitP l 1 := by rw [if_neg (by omega)]; rfl
  have e2 : (if (1 : Int) < 0 then (1 : Int) else 4) = 4 := by rw [if_neg (by omega)]
  rw [e1, e2] at hsp
  have hln := hid (fun xs h => splitP_len (l := l) (n := 1) (xs := xs) h)
  generalize splitP l 1 = R at *
  clear e1 e2
  obtain ⟨a, cap, rfl, _⟩ := hb
  unfold SplitC at hsp
  cases R with
  | none =>
    go_enter Tryd.func19, Tryd.ntmps19
    go_wp2_with fail
    refine (hsp.out _ (below_new _ _)).mono ?_
    rintro e w2 ⟨h2, rfl⟩
    have hb2 := hid ((below_new w _).step h2)
    have r2 := (h2.block w.heap.size (by simp)).trans (heap_alloc_new w _)
    have c0 := box_at (j := 0) r2 rfl
    have c1 := box_at (j := 1) r2 rfl
    have c2 := box_at (j := 2) r2 rfl
    have c3 := box_at (j := 3) r2 rfl
    have c4 := box_at (j := 4) r2 rfl
    have f0 := box_free r2
    go_wp2_with fail
    have hbz := hid (set5_below hb2.out (Nat.le_refl _) (.int .i64 0) (.int .i64 0) (.string ⟨#[]⟩) (.slice none 0 0) (.slice none 0 0))
    have rz := hid (set5_box (u0 := (.int .i64 0)) (u1 := (.int .i64 0)) (u2 := (.string ⟨#[]⟩)) (u3 := (.slice none 0 0)) (u4 := (.slice none 0 0)) r2)
    unfold set5 at hbz rz
    clear c0 c1 c2 c3 c4 f0 h2 r2
    generalize ((((w2.setCell ⟨w.heap.size, 0, none⟩ (.int .i64 0)).setCell ⟨w.heap.size, 1, none⟩ (.int .i64 0)).setCell ⟨w.heap.size, 2, none⟩ (.string ⟨#[]⟩)).setCell ⟨w.heap.size, 3, none⟩ (.slice none 0 0)).setCell ⟨w.heap.size, 4, none⟩ (.slice none 0 0) = w9 at *
    have z0 := box_at (j := 0) rz.out rfl
    have z1 := box_at (j := 1) rz.out rfl
    have z2 := box_at (j := 2) rz.out rfl
    have z3 := box_at (j := 3) rz.out rfl
    have z4 := box_at (j := 4) rz.out rfl
    refine ⟨rfl, _, by simp [results, Tryd.results19, go_sem, z0, z1, z2, z3, z4]; exact ⟨rfl, rfl⟩, [.int .i64 0, .int .i64 0, .string ByteArray.empty, .slice none 0 0, .slice none 0 0], rfl, hbz.out, rd_zeroK, fun j ad n c hj => ?_⟩
    match j, hj with
    | 0, hj => simp at hj
    | 1, hj => simp at hj
    | 2, hj => simp at hj
    | 3, hj => simp at hj
    | 4, hj => simp at hj
    | j + 5, hj => simp at hj
  | some xs =>
    obtain ⟨x, rfl⟩ : ∃ x, xs = [x] := by
      have := hln.out _ rfl
      match xs, this with
      | [x], _ => exact ⟨x, rfl⟩
    obtain ⟨xk, xn, xt, xl, xfn, xfv⟩ := x
    go_enter Tryd.func19, Tryd.ntmps19
    go_wp2_with fail
    refine (hsp.out _ (below_new _ _)).mono ?_
    rintro e w2 ⟨h2, v2, rfl, ho2⟩
    have hb2 := hid ((below_new w _).step h2)
    have r2 := (h2.block w.heap.size (by simp)).trans (heap_alloc_new w _)
    rcases ho2.row thawRel with ⟨_, h0⟩ | ⟨g, cap', rfl, _, _, hg1, hg2, cs, hcs, hrd⟩
    · cases h0
    obtain ⟨hr, ht⟩ := hrd 0 _ rfl
    obtain ⟨ya, yc, ua, uc, he, _⟩ := hr.inv
    rw [he] at hr ht
    have hcs0 := hcs 0 (by simp)
    rw [he] at hcs0
    have x0 := hcs0 0 _ rfl
    have x1 := hcs0 1 _ rfl
    have x2 := hcs0 2 _ rfl
    have x3 := hcs0 3 _ rfl
    have x4 := hcs0 4 _ rfl
    simp only [Nat.zero_mul, Nat.zero_add, Nat.add_zero] at x0 x1 x2 x3 x4
    replace hr := hid hr
    replace ht := hid ht
    clear hcs hrd he hcs0
    have c0 := box_at (j := 0) r2 rfl
    have c1 := box_at (j := 1) r2 rfl
    have c2 := box_at (j := 2) r2 rfl
    have c3 := box_at (j := 3) r2 rfl
    have c4 := box_at (j := 4) r2 rfl
    have f0 := box_free r2
    have hsz : (w.alloc (.cells #[.int .i64 0, .int .i64 0, .string ⟨#[]⟩, .slice none 0 0, .slice none 0 0] 25)).heap.size = w.heap.size + 1 := by simp
    replace hsz := hid hsz
    clear hg1 hg2 ho2
    go_wp2_with fail
    clear x0 x1 x2 x3 x4
    have hbz := hid (set5_below hb2.out (Nat.le_refl _) (.int .i64 xk) (.int .i64 xn) (.string xt) (.slice ya xl.length yc) (.slice ua xfv.length uc))
    have rz := hid (set5_box (u0 := (.int .i64 xk)) (u1 := (.int .i64 xn)) (u2 := (.string xt)) (u3 := (.slice ya xl.length yc)) (u4 := (.slice ua xfv.length uc)) r2)
    have hkeep : ∀ b, w.heap.size + 1 ≤ b → (set5 w2 w.heap.size (.int .i64 xk) (.int .i64 xn) (.string xt) (.slice ya xl.length yc) (.slice ua xfv.length uc)).heap[b]? = w2.heap[b]? := fun b hb => set5_other _ _ _ _ _ _ _ (by omega)
    have hszz := set5_size w2 w.heap.size (.int .i64 xk) (.int .i64 xn) (.string xt) (.slice ya xl.length yc) (.slice ua xfv.length uc)
    unfold set5 at hbz rz hkeep hszz
    clear c0 c1 c2 c3 c4 f0 h2 r2
    generalize ((((w2.setCell ⟨w.heap.size, 0, none⟩ (.int .i64 xk)).setCell ⟨w.heap.size, 1, none⟩ (.int .i64 xn)).setCell ⟨w.heap.size, 2, none⟩ (.string xt)).setCell ⟨w.heap.size, 3, none⟩ (.slice ya xl.length yc)).setCell ⟨w.heap.size, 4, none⟩ (.slice ua xfv.length uc) = w9 at *
    have hr9 : Hid (Rd w9 (From w.heap.size w9) (.mk xk xn xt xl xfn xfv) [.int .i64 xk, .int .i64 xn, .string xt, .slice ya xl.length yc, .slice ua xfv.length uc]) :=
      hr.out.keep (fun b hb => ⟨by have := hb.1; have := hsz.out; omega, by have := hb.2.1; omega⟩) (fun b hb => hkeep b (by have := hb.1; have := hsz.out; omega))
    have ht9 : Hid (Thaw w.heap.size w9 [.int .i64 xk, .int .i64 xn, .string xt, .slice ya xl.length yc, .slice ua xfv.length uc]) := fun j ad n c hj => by
      obtain ⟨t1, t2⟩ := ht.out j ad n c hj
      refine ⟨by have := t1.1; have := hsz.out; omega, by have := t1.2.1; omega, fun off => ?_⟩
      rw [← t2 off]
      unfold World.frozen?
      rw [hkeep ad.block (by have := t1.1; have := hsz.out; omega)]
    clear hkeep hszz
    have z0 := box_at (j := 0) rz.out rfl
    have z1 := box_at (j := 1) rz.out rfl
    have z2 := box_at (j := 2) rz.out rfl
    have z3 := box_at (j := 3) rz.out rfl
    have z4 := box_at (j := 4) rz.out rfl
    refine ⟨rfl, _, by simp [results, Tryd.results19, go_sem, z0, z1, z2, z3, z4]; rfl, _, rfl, hbz.out, hr9.out, ht9.out⟩

set_option maxRecDepth 100000 in
set_option maxHeartbeats 2000000 in
theorem after_calls {w : World} {bv : Value} {l : List UInt8} (hb : BytesAt w (Now w) l bv) (hl : l.length ≤ 17179869184) :
    Calls Tryd.prog 38 #[bv] w fun e w' => ∃ v, e = .returned (.tuple #[v, .bool (afterP l).isSome]) ∧ OwnB w w' ((afterP l).getD []) v := by
  have hb0 := hid hb
  obtain ⟨a, cap, rfl, hc1, hc2, hs⟩ := hb
  obtain ⟨R, hR⟩ : ∃ R, afterP l = R := ⟨_, rfl⟩
  rw [hR]
  replace hR := hid hR
  have hcl := hid (fun (w : World) (l : List UInt8) (a : Option Addr) (c : Nat) hb hno hlim => kclip_calls (w := w) (l := l) (a := a) (c := c) hb hno hlim)
  go_enter Tryd.func38, Tryd.ntmps38
  go_wp2_with fail
  go_loopg [4] l.length (fun gh s4 wr => ∃ (n : Nat), gh = n ∧ n ≤ l.length ∧ s4 = .int .i64 n ∧ (∀ x ∈ l.drop n, x = 255) ∧ wr = w)
  case atStart => exact ⟨l.length, rfl, Nat.le_refl _, rfl, by simp, rfl⟩
  case round =>
    obtain ⟨n, rfl, hn, rfl, hf, rfl⟩ := hrel
    replace hf := hid hf
    cases gk with
    | zero =>
      have hno : Hid (R = none) := by show _ = _; rw [← hR.out]; exact afterP_all (by simpa using hf.out)
      go_wp2_with fail
      go_returns
      rw [hno.out]
      exact ⟨_, rfl, Below.refl _ _, by simpa [bcells] using World.ownsRow_nil _ _ _ _⟩
    | succ m =>
      obtain ⟨b, off, rfl, hbn, hcell⟩ : ∃ b off, a = some ⟨b, off, none⟩ ∧ Now wr b ∧ ∀ (j : Nat) (c : UInt8), l[j]? = some c → wr.cell? ⟨b, off + j, none⟩ = some (.int .u8 c.toNat) := by
        rcases hs with hs | hs
        · subst hs; simp at hn
        · exact hs
      obtain ⟨c, hc⟩ : ∃ c, l[m]? = some c := ⟨_, List.getElem?_eq_getElem (by omega)⟩
      have hcx := hcell m c hc
      have hdr : Hid (l.drop m = c :: l.drop (m + 1)) := by show _ = _; rw [List.drop_eq_getElem_cons (by omega), (List.getElem?_eq_some_iff.1 hc).2]
      have e1 : IntKind.i64.wrap (((m + 1 : Nat) : Int) - 1) = (m : Int) := by rw [IntWalk.i64_in _ (by omega)]; omega
      have e1' : IntKind.i64.wrap ((m : Int) + 1 - 1) = (m : Int) := by rw [IntWalk.i64_in _ (by omega)]; omega
      have i1 : (m : Int) < (l.length : Int) := by omega
      have i0 : (0 : Int) ≤ (m : Int) := by omega
      clear hs
      by_cases h255 : c = 255
      · subst h255
        go_wp2_with fail
        go_roundg m
        case measure => omega
        case rel => exact ⟨m, rfl, by omega, by go_num, by rw [hdr.out]; intro x hx; rcases List.mem_cons.1 hx with h | h; exact h; exact hf.out x h, rfl⟩
      · have hne : ((c.toNat : Int) == 255) = false := by
          have : c.toNat ≠ 255 := fun e => h255 (UInt8.toNat_inj.1 e)
          simp; omega
        have hlm : (l.take (m + 1)).length = m + 1 := by rw [List.length_take]; omega
        have hcl1 := hcl.out wr (l.take (m + 1)) (some ⟨b, off, none⟩) cap (by rw [hlm]; exact bytes_pre hb0.out (by omega)) (fun h => by cases h) (by omega)
        rw [hlm] at hcl1
        replace hcl1 := hid hcl1
        have hyes : Hid (R = some (l.take m ++ [UInt8.ofNat (c.toNat + 1)])) := by
          show _ = _
          rw [← hR.out]
          conv => lhs; rw [← List.take_append_drop m l, hdr.out]
          exact afterP_at _ h255 hf.out
        have htk : Hid (l.take (m + 1) = l.take m ++ [c]) := take_succ_of hc
        have hlm0 : Hid ((l.take m).length = m) := by show _ = _; rw [List.length_take]; omega
        obtain ⟨h1, h2⟩ := byte_succ h255
        replace h2 := hid h2
        have e2 : IntKind.u8.wrap ((c.toNat : Int) + 1) = ((c.toNat + 1 : Nat) : Int) := by rw [IntKind.wrap_u8]; omega
        have i2 : (m : Int) < (m : Int) + 1 := by omega
        go_wp2_with fail
        refine hcl1.out.mono ?_
        rintro e w5 ⟨v5, rfl, hB5, ho5⟩
        rw [htk.out, List.length_append, hlm0.out, List.length_singleton, bcells_append] at ho5
        obtain ⟨g5, c5, rfl⟩ : ∃ g5 c5, v5 = .slice (some ⟨g5, 0, none⟩) (m + 1) c5 := by
          rcases ho5.2 with ⟨_, h0⟩ | ⟨g, cap, cur, hv, _⟩
          · omega
          · exact ⟨g, cap, hv⟩
        have k0 : w5.cell? ⟨g5, m, none⟩ = some (.int .u8 c.toNat) := by
          rw [ho5.cellAt m (by omega), List.getElem?_append_right (by rw [bcells_length, hlm0.out]; omega), bcells_length, hlm0.out, Nat.sub_self]
          rfl
        have fz := ho5.frozenAt m
        have hst := (ho5.stored m (.int .u8 ((c.toNat + 1 : Nat) : Int))).1
        have hgr := (ho5.stored m (.int .u8 ((c.toNat + 1 : Nat) : Int))).2
        have hB6 := hid (hB5.grown hgr hB5.size (fun k hk => by obtain rfl := Option.some.inj hk; exact (ho5.lt g5 rfl).1))
        have hset : (bcells (l.take m) ++ bcells [c]).set m (.int .u8 ((c.toNat + 1 : Nat) : Int)) = bcells (l.take m ++ [UInt8.ofNat (c.toNat + 1)]) := by
          rw [List.set_append_right _ _ (by rw [bcells_length, hlm0.out]; omega), bcells_length, hlm0.out, Nat.sub_self, bcells_append]
          simp only [bcells, List.map_cons, List.map_nil, List.set_cons_zero, h2.out]
        rw [hset] at hst
        replace hst := hid hst
        clear ho5 hgr hset hcell
        go_wp2_with fail
        go_returns
        rw [hyes.out]
        exact ⟨_, rfl, hB6.out, by simpa [hlm0.out] using hst.out⟩
end Go.Proofs.YtihcegakghmdfaaDoor
