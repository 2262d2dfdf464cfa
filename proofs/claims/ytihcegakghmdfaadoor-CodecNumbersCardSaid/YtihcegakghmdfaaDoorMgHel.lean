/-
  A region that draws its order, whose loads are taken first under a condition S on the world; S is asked only behind the operations ahead of number n (the stores at the region's end may break it). No condition.
  A row of bytes that a call builds: what append leaves as it was (all but the row itself), and where the row lies behind it. No condition.
-/
import Derived.Deep.RegionHeld3
import Derived.WalkKit
import Derived.Test.YtihcegakghmdfaaDoorMgRef1
import Derived.WalkMore
namespace Go.Proofs.YtihcegakghmdfaaDoor
open Go.RowKit Go.Proofs
section
variable {P : Program} {ops : Array Oper} {Q : Exit → Act → World → Prop} {md : Region.Mode} {S : World → Prop} {n : Nat}

/-- Whatever order is picked from here on; S holds behind every operation ahead of number n. -/
def wpAnyT (P : Program) (md : Region.Mode) (ops : Array Oper) (Q : Exit → Act → World → Prop) (S : World → Prop) (n : Nat) : Nat → Array Bool → Act → World → Prop
  | 0, listed, a, w => Region.ready md ops listed = [] ∧ Q .normal a w
  | fuel + 1, listed, a, w =>
    (Region.ready md ops listed = [] → Q .normal a w) ∧
    ∀ i ∈ Region.ready md ops listed, wpOp P ops Q i (fun a' w' => (i < n → S w') ∧ wpAnyT P md ops Q S n fuel (listed.setIfInBounds i true) a' w') a w

theorem wpAny_of_T : ∀ (fuel : Nat) (listed : Array Bool) (a : Act) (w : World), wpAnyT P md ops Q S n fuel listed a w → wpAny P md ops Q fuel listed a w
  | 0, _, _, _, h => h
  | fuel + 1, _, _, _, h => ⟨h.1, fun i hi => wpOp_mono (fun a' w' h' => wpAny_of_T fuel _ a' w' h'.2) (h.2 i hi)⟩

/-- The operations from number n on wait for number i. -/
def waitsB (md : Region.Mode) (ops : Array Oper) (n i : Nat) : Bool :=
  (List.range ops.size).all fun j => j < n || match ops[j]? with
    | some o => o.after.any fun e => Region.binds md e && e.on == i
    | none => true
theorem waits_spec {i : Nat} (h : waitsB md ops n i = true) (j : Nat) (oj : Oper) (hj : ops[j]? = some oj) (hn : n ≤ j) : ∃ e ∈ oj.after, Region.binds md e = true ∧ e.on = i := by
  have hlt : j < ops.size := (Array.getElem?_eq_some_iff.1 hj).1
  unfold waitsB at h
  rw [List.all_eq_true] at h
  have h1 := h j (List.mem_range.2 hlt)
  rw [hj] at h1
  simp only [Bool.or_eq_true, decide_eq_true_eq, Array.any_eq_true', Bool.and_eq_true, beq_iff_eq] at h1
  rcases h1 with h1 | ⟨e, he, h2, h3⟩
  · omega
  · exact ⟨e, he, h2, h3⟩

theorem wpAnyT_first {i : Nat} {oi : Oper} {v : Value} (hi : ops[i]? = some oi) (hsel : ∀ (j : Nat) (o : Oper) cs b, ops[j]? = some o → o.op ≠ .select cs b)
    (hQ : ∀ c a w, Q (.panic c) (a.put oi.dst v) w → Q (.panic c) a w) (hwt : ∀ (j : Nat) (oj : Oper), ops[j]? = some oj → n ≤ j → ∃ e ∈ oj.after, Region.binds md e = true ∧ e.on = i) :
    ∀ (fuel : Nat) (listed : Array Bool) (a : Act) (w : World),
      (∀ j oj, ops[j]? = some oj → j ≠ i → listed.getD j true = false → (∀ e ∈ oj.after, Region.binds md e = true → e.on ≠ i) → oi.apart ops oj = true) →
      i ∈ Region.ready md ops listed → YieldsIf P ops S oi v a → S w →
      wpAnyT P md ops Q S n fuel (listed.setIfInBounds i true) (a.put oi.dst v) w → wpAnyT P md ops Q S n (fuel + 1) listed a w := by
  intro fuel
  induction fuel with
  | zero =>
    intro listed a w _ hr hy hS H
    refine ⟨fun h => (by rw [h] at hr; cases hr), fun j hj => ?_⟩
    by_cases hji : j = i
    · subst hji; exact hy.wpOp hi hS ⟨fun _ => hS, H⟩
    · have := ready_mono hj hji
      rw [H.1] at this
      cases this
  | succ fuel ih =>
    intro listed a w hfree hr hy hS H
    refine ⟨fun h => (by rw [h] at hr; cases hr), fun j hj => ?_⟩
    by_cases hji : j = i
    · subst hji; exact hy.wpOp hi hS ⟨fun _ => hS, H⟩
    · have h1 := H.2 j (ready_mono hj hji)
      obtain ⟨hjun, oj, hoj, hall⟩ := mem_ready.1 hj
      have hnot : ∀ e ∈ oj.after, Region.binds md e = true → e.on ≠ i := fun e he hb heq => by
        have h1 := hall e he hb
        have h0 := (mem_ready.1 hr).1
        rw [heq] at h1
        rcases Nat.lt_or_ge i listed.size with h' | h'
        · simp [h'] at h0 h1; rw [h0] at h1; cases h1
        · simp [Array.getElem?_eq_none h'] at h1
      have hjn : j < n := (Nat.lt_or_ge j n).resolve_right fun hn => by
        obtain ⟨e, he, hb, heq⟩ := hwt j oj hoj hn
        exact hnot e he hb heq
      have h2 := wpOp_putIf hoj (hfree j oj hoj hji hjun hnot) (fun cs b => hsel i oi cs b hi) (fun cs b => hsel j oj cs b hoj) hQ hy h1
      have hfree' : ∀ k ok, ops[k]? = some ok → k ≠ i → (listed.setIfInBounds j true).getD k true = false →
          (∀ e ∈ ok.after, Region.binds md e = true → e.on ≠ i) → oi.apart ops ok = true := fun k ok hk hki hun hno => by
        refine hfree k ok hk hki ?_ hno
        by_cases hjk : j = k
        · subst hjk; exact hjun
        · rw [getD_set_ne true hjk] at hun; exact hun
      refine wpOp_mono (fun a' w' h3 => ⟨fun _ => h3.2.1 hjn, ih (listed.setIfInBounds j true) a' w' hfree' (ready_mono hr (Ne.symm hji)) h3.1 (h3.2.1 hjn) ?_⟩) h2
      rw [Array.setIfInBounds_comm _ _ hji]
      exact h3.2.2

theorem wpAnyT_take {i : Nat} {oi : Oper} {v : Value} {fuel : Nat} {listed : Array Bool} {a : Act} {w : World} (hi : ops[i]? = some oi)
    (hr : (Region.ready md ops listed).contains i = true) (hs : Region.noSelect ops = true) (hf : Region.free md ops listed i = true) (hw : waitsB md ops n i = true)
    (hQ : ∀ c a w, Q (.panic c) (a.put oi.dst v) w → Q (.panic c) a w) (hy : YieldsIf P ops S oi v a) (hS : S w)
    (h : wpAnyT P md ops Q S n fuel (listed.setIfInBounds i true) (a.put oi.dst v) w) : wpAnyT P md ops Q S n (fuel + 1) listed a w :=
  wpAnyT_first hi (Region.noSelect_spec hs) hQ (waits_spec hw) fuel listed a w (Region.free_spec hi hf) (by simpa using hr) hy hS h

/-- One operation alone may come up: behind it, if it is ahead of number n, S is to be shown anew. -/
theorem wpAnyT_one {i : Nat} {o : Oper} {fuel : Nat} {listed : Array Bool} {a : Act} {w : World} (hr : Region.ready md ops listed = [i]) (ho : ops[i]? = some o)
    (h : ∀ K : Act → World → Prop, Shut (∀ a w, (i < n → S w) → ((i < n → S w) → wpAnyT P md ops Q S n fuel (listed.setIfInBounds i true) a w) → K a w) → if Region.wanted o (yielded ops a.tmps) = true then Oper.wp P o a w K Q else K (a.put o.dst undef) w) :
    wpAnyT P md ops Q S n (fuel + 1) listed a w := by
  refine ⟨fun h0 => absurd h0 (by rw [hr]; simp), fun j hj => ?_⟩
  rw [hr] at hj
  obtain rfl : j = i := by simpa using hj
  exact wpOp_step ho fun K hK => h K fun a w hS hW => hK a w ⟨hS, hW hS⟩
theorem wpAnyT_done {listed : Array Bool} {a : Act} {w : World} (hr : Region.ready md ops listed = []) (h : Q .normal a w) : ∀ fuel, wpAnyT P md ops Q S n fuel listed a w
  | 0 => ⟨hr, h⟩
  | _ + 1 => ⟨fun _ => h, by rw [hr]; simp⟩
/-- The beginning. -/
theorem wp_region_T {id : Nat} {a : Act} {w : World} (S : World → Prop) (n : Nat) (hm : P.follows .mixedOrders = true) (h : wpAnyT P .any ops Q S n ops.size (Array.replicate ops.size false) a w.drew) : (Code.region id ops true).wp P Q a w :=
  wp_region_any hm (wpAny_of_T _ _ _ _ h)
end
end Go.Proofs.YtihcegakghmdfaaDoor

namespace Go.Proofs.YtihcegakghmdfaaDoor
open Go.RowKit Go.Proofs

/-- Of what was there, the row of v alone may have turned; the row of v' is v's or new. -/
structure Ext (w w' : World) (v v' : Value) : Prop where
  grown : w.grownBy w' v.ownBlock
  own : ∀ b, v'.ownBlock = some b → v.ownBlock = some b ∨ w.heap.size ≤ b
theorem Ext.of_below {w w' : World} (v : Value) (h : Below w.heap.size w w') : Ext w w' v v := ⟨⟨h.os, h.tape, h.output, h.size, fun k hk _ => h.block k hk⟩, fun _ h => .inl h⟩
theorem Ext.refl (w : World) (v : Value) : Ext w w v v := Ext.of_below v (Below.refl _ _)
theorem Ext.size {w w' : World} {v v' : Value} (h : Ext w w' v v') : w.heap.size ≤ w'.heap.size := h.grown.size
theorem Ext.ne {w w' : World} {v v' : Value} (h : Ext w w' v v') {k : Nat} (hk : k < w.heap.size) (hv : v.ownBlock ≠ some k) : v'.ownBlock ≠ some k := fun e => by
  rcases h.own k e with h1 | h1
  · exact hv h1
  · omega
theorem Ext.block {w w' : World} {v v' : Value} (h : Ext w w' v v') {k : Nat} (hk : k < w.heap.size) (hv : v.ownBlock ≠ some k) : w'.heap[k]? = w.heap[k]? := h.grown.block k hk (Ne.symm hv)
theorem Ext.trans {a b c : World} {u v x : Value} (h : Ext a b u v) (k : Ext b c v x) : Ext a c u x :=
  ⟨⟨k.grown.os.trans h.grown.os, k.grown.tape.trans h.grown.tape, k.grown.output.trans h.grown.output, Nat.le_trans h.size k.size, fun i hi hne =>
    (k.block (Nat.lt_of_lt_of_le hi h.size) (h.ne hi (Ne.symm hne))).trans (h.block hi (Ne.symm hne))⟩, fun b hb => by
    rcases k.own b hb with h1 | h1
    · exact h.own b h1
    · exact .inr (Nat.le_trans h.size h1)⟩
theorem Ext.alloc {a b : World} {u v : Value} (h : Ext a b u v) (o : Obj) : Ext a (b.alloc o) u v := h.trans (Ext.of_below v (below_new b o))
theorem Ext.later {a b c : World} {u v : Value} (h : Ext a b u v) (k : Below b.heap.size b c) : Ext a c u v := h.trans (Ext.of_below v k)
theorem Ext.nil {w w' : World} {v' : Value} (h : Ext w w' (.slice none 0 0) v') : Below w.heap.size w w' := ⟨h.grown.os, h.grown.tape, h.grown.output, h.size, fun _ hk => h.block hk (by simp [Value.ownBlock])⟩

section
variable {P : Program} {t e : TypeId} {i : TypeInfo} {o : Oper} {a : Act} {Q : Exit → Act → World → Prop} {B : Nat} {W0 w : World} {l : List UInt8} {v : Value}

theorem run_ext_bytes (ty : TypeId) (hP : Byte8 P t e i) (hb : Buf B e W0 w l v) (l' : List UInt8) (g c : Nat) (hsrc : Src w g l') (hlen : l.length + l'.length ≤ 140737488355328) :
    ∃ v' w', (Builtin.append_ #[t, t] ty #[v, .slice (some ⟨g, 0, none⟩) l'.length c]).run P w = .ok v' w' ∧ Buf B e W0 w' (l ++ l') v' ∧ Ext w w' v v' := by
  obtain ⟨v', w', hr, h2, h3, h4⟩ := run_append_ownF (P := P) w B t ty e i (.int .u8 0) 1 1 hP.ht hP.hi hP.hz hP.hsize hP.hby rfl (by decide) v l.length (bcells l) hb.1 ⟨g, 0, none⟩ l'.length c (bcells l') (by simp [bcells_length]) hsrc (bcells_one l') (by unfold maxLen; omega) (by omega) hb.2.2
  refine ⟨v', w', hr, by unfold Buf; rw [List.length_append, bcells_append]; exact Lib.OwnBuf.grown hb h2 h3, h3, ?_⟩
  rcases hb.1.2 with ⟨rfl, h0⟩ | ⟨g', cap, cur, fz, rfl, hbg, hg, hfz, hnc, hcm, hcs, htake⟩
  · have hl0 : bcells l = [] := List.eq_nil_of_length_eq_zero (by rw [bcells_length]; exact h0)
    obtain ⟨v2, w2, hr2, h22, _, _⟩ := run_append_ownF (P := P) w w.heap.size t ty e i (.int .u8 0) 1 1 hP.ht hP.hi hP.hz hP.hsize hP.hby rfl (by decide) (.slice none 0 0) 0 [] (World.ownsRowF_nil w w.heap.size e 1) ⟨g, 0, none⟩ l'.length c (bcells l') (by simp [bcells_length]) hsrc (bcells_one l') (by unfold maxLen; omega) (by omega) (Nat.le_refl _)
    have := hr2.symm.trans hr
    injection this with e1 e2
    subst e1 e2
    exact fun b hb => .inr (h22.lt b hb).1
  · by_cases hroom : l.length + l'.length ≤ cap
    · have hr2 := run_append_roomF (P := P) w t ty e i hP.ht hP.hi g' l.length cap cur fz hg (by rw [hP.hsize]; exact hfz) ⟨g, 0, none⟩ l'.length c (bcells l') (by rw [hP.hsize]; simp [bcells_length]) hsrc (bcells_one l') hroom (by rw [hP.hsize, bcells_length]; omega)
      have := hr2.symm.trans hr
      injection this with e1 e2
      subst e1
      exact fun b hb => .inl hb
    · have holds : ∀ j u, (bcells l)[j]? = some u → w.cell? ((⟨g', 0, none⟩ : Addr).add j) = some u := hb.1.cells (g := g') rfl
      have hr2 := run_append_grow (P := P) w t ty e i (.int .u8 0) hP.ht hP.hi hP.hz ⟨g', 0, none⟩ l.length cap (bcells l) (by rw [hP.hsize]; simp [bcells_length]) holds ⟨g, 0, none⟩ l'.length c (bcells l') (by rw [hP.hsize]; simp [bcells_length]) hsrc (by omega) (by omega) (growslice_fits (by omega) (by rw [hP.hby]; omega))
      have := hr2.symm.trans hr
      injection this with e1 e2
      subst e1
      exact fun b hb => .inr (by simp only [Value.ownBlock, Option.some.injEq] at hb; omega)
theorem run_ext_text {u : TypeId} (ty : TypeId) (hP : Byte8 P t e i) (hu : P.underlying u = some .string) (hb : Buf B e W0 w l v) (str : ByteArray) (hlen : l.length + str.size ≤ 140737488355328) :
    ∃ v' w', (Builtin.append_ #[t, u] ty #[v, .string str]).run P w = .ok v' w' ∧ Buf B e W0 w' (l ++ str.data.toList) v' ∧ Ext w w' v v' := by
  obtain ⟨v', w', hr, h2, h3, h4⟩ := Lib.run_append_own_stringF (P := P) w B t u ty e i hP.ht hu hP.hi hP.hz hP.hsize hP.hby v l.length (bcells l) hb.1 str (by unfold maxLen; omega) hlen hb.2.2
  refine ⟨v', w', hr, ?_, h3, ?_⟩
  · unfold Buf
    rw [List.length_append, bcells_append, show str.data.toList.length = str.size by simp]
    exact Lib.OwnBuf.grown hb h2 h3
  rcases hb.1.2 with ⟨rfl, h0⟩ | ⟨g', cap, cur, fz, rfl, hbg, hg, hfz, hnc, hcm, hcs, htake⟩
  · obtain ⟨v2, w2, hr2, h22, _, _⟩ := Lib.run_append_own_stringF (P := P) w w.heap.size t u ty e i hP.ht hu hP.hi hP.hz hP.hsize hP.hby (.slice none 0 0) 0 [] (World.ownsRowF_nil w w.heap.size e 1) str (by unfold maxLen; omega) (by omega) (Nat.le_refl _)
    have := hr2.symm.trans hr
    injection this with e1 e2
    subst e1 e2
    exact fun b hb => .inr (h22.lt b hb).1
  · by_cases hroom : l.length + str.size ≤ cap
    · have hr2 := Lib.run_append_room_stringF (P := P) w t u ty e i hP.ht hu hP.hi hP.hsize g' l.length cap cur fz hg (by simpa using hfz) str hroom (by omega)
      have := hr2.symm.trans hr
      injection this with e1 e2
      subst e1
      exact fun b hb => .inl hb
    · have holds : ∀ j u, (bcells l)[j]? = some u → w.cell? ((⟨g', 0, none⟩ : Addr).add j) = some u := hb.1.cells (g := g') rfl
      have hr2 := Lib.run_append_grow_string (P := P) w t u ty e i (.int .u8 0) hP.ht hu hP.hi hP.hz ⟨g', 0, none⟩ l.length cap (bcells l) (by rw [hP.hsize]; simp [bcells_length]) holds str (by omega) (by omega) (by rw [hP.hby]; exact growslice_fits (by omega) (by omega))
      have := hr2.symm.trans hr
      injection this with e1 e2
      subst e1
      exact fun b hb => .inr (by simp only [Value.ownBlock, Option.some.injEq] at hb; omega)

theorem wp_ext_bytes {K : Act → World → Prop} (s x : Operand) (ho : o.op = .call { callee := .builtin .append, args := #[s, x], argTypes := #[t, t] }) (hP : Byte8 P t e i) (hs : a.eval s = v) (hb : Buf B e W0 w l v)
    (l' : List UInt8) (g m c : Nat) (hx : a.eval x = .slice (some ⟨g, 0, none⟩) m c) (hm : m = l'.length) (hsrc : Src w g l') (hlen : l.length + l'.length ≤ 140737488355328)
    (h : ∀ v' w', Buf B e W0 w' (l ++ l') v' → Ext w w' v v' → K (a.put o.dst v') w') : o.wp P a w K Q := by
  subst hm
  obtain ⟨v', w', hr, h2, h3⟩ := run_ext_bytes o.type hP hb l' g c hsrc hlen
  unfold Oper.wp execOp
  simp only [ho, resolve, invoke, builtin, Sem.run_bind, Sem.run_pure, Result.andThen_ok, List.map_toArray, List.map_cons, List.map_nil, hs, hx, hr]
  exact h v' w' h2 h3
theorem wp_ext_text {K : Act → World → Prop} {u : TypeId} (s x : Operand) (ho : o.op = .call { callee := .builtin .append, args := #[s, x], argTypes := #[t, u] }) (hP : Byte8 P t e i) (hu : P.underlying u = some .string) (hs : a.eval s = v) (hb : Buf B e W0 w l v)
    (str : ByteArray) (hx : a.eval x = .string str) (hlen : l.length + str.size ≤ 140737488355328)
    (h : ∀ v' w', Buf B e W0 w' (l ++ str.data.toList) v' → Ext w w' v v' → K (a.put o.dst v') w') : o.wp P a w K Q := by
  obtain ⟨v', w', hr, h2, h3⟩ := run_ext_text o.type hP hu hb str hlen
  unfold Oper.wp execOp
  simp only [ho, resolve, invoke, builtin, Sem.run_bind, Sem.run_pure, Result.andThen_ok, List.map_toArray, List.map_cons, List.map_nil, hs, hx, hr]
  exact h v' w' h2 h3
theorem wpList_ext_bytes {ops : Array Oper} {rest : List Oper} (hgd : o.guard = none) (s x : Operand) (ho : o.op = .call { callee := .builtin .append, args := #[s, x], argTypes := #[t, t] }) (hP : Byte8 P t e i) (hs : a.eval s = v) (hb : Buf B e W0 w l v)
    (l' : List UInt8) (g m c : Nat) (hx : a.eval x = .slice (some ⟨g, 0, none⟩) m c) (hm : m = l'.length) (hsrc : Src w g l') (hlen : l.length + l'.length ≤ 140737488355328)
    (h : ∀ v' w', Buf B e W0 w' (l ++ l') v' → Ext w w' v v' → wpList P ops Q rest (a.put o.dst v') w') : wpList P ops Q (o :: rest) a w :=
  wpList_plain hgd fun _ hK => wp_ext_bytes s x ho hP hs hb l' g m c hx hm hsrc hlen fun v' w' h' h'' => hK _ _ (h v' w' h' h'')
theorem wpList_ext_text {ops : Array Oper} {rest : List Oper} {u : TypeId} (hgd : o.guard = none) (s x : Operand) (ho : o.op = .call { callee := .builtin .append, args := #[s, x], argTypes := #[t, u] }) (hP : Byte8 P t e i) (hu : P.underlying u = some .string) (hs : a.eval s = v) (hb : Buf B e W0 w l v)
    (str : ByteArray) (hx : a.eval x = .string str) (hlen : l.length + str.size ≤ 140737488355328)
    (h : ∀ v' w', Buf B e W0 w' (l ++ str.data.toList) v' → Ext w w' v v' → wpList P ops Q rest (a.put o.dst v') w') : wpList P ops Q (o :: rest) a w :=
  wpList_plain hgd fun _ hK => wp_ext_text s x ho hP hu hs hb str hx hlen fun v' w' h' h'' => hK _ _ (h v' w' h' h'')
theorem step_ext_bytes {ops : Array Oper} {K : Act → World → Prop} {E : Prop} (hgd : o.guard = none) (s x : Operand) (ho : o.op = .call { callee := .builtin .append, args := #[s, x], argTypes := #[t, t] }) (hP : Byte8 P t e i) (hs : a.eval s = v) (hb : Buf B e W0 w l v)
    (l' : List UInt8) (g m c : Nat) (hx : a.eval x = .slice (some ⟨g, 0, none⟩) m c) (hm : m = l'.length) (hsrc : Src w g l') (hlen : l.length + l'.length ≤ 140737488355328)
    (h : ∀ v' w', Buf B e W0 w' (l ++ l') v' → Ext w w' v v' → K (a.put o.dst v') w') : if Region.wanted o (yielded ops a.tmps) = true then Oper.wp P o a w K Q else E := by
  rw [if_pos (by simp [Region.wanted, hgd])]
  exact wp_ext_bytes s x ho hP hs hb l' g m c hx hm hsrc hlen h
end
end Go.Proofs.YtihcegakghmdfaaDoor
