/-
  A region that draws its order, whose loads are taken first under a condition S on the world; S is asked only behind the operations ahead of number n (the stores at the region's end may break it). No condition.
  A region that draws its order, where two operations may come up. No condition.
  A region that draws its order: its head's operations yield each one value in whatever later world (they read, or call what turns nothing), and its tail's come one behind the other: walked once, in the order of the text. No condition.
  A row of bytes that a call builds, from append to append; no program. No condition.
  Slices that a call builds, whose elements lead to memory that came up meanwhile: append's law for them; slices of bytes, read. No condition.
-/
import Derived.Deep.RegionHeld3
import Derived.WalkKit
import Derived.Deep.QuietTactic
import Derived.BigQuiet
import Derived.StillTail
import Derived.Below
import Derived.Lib.BufSteps
import Derived.Test.YtckdgmjekfpcjaaDoorMgPlain
import Derived.Laws.OwnMore
namespace Go.Proofs.YtckdgmjekfpcjaaDoor
open Go.RowKit Go.Proofs
section
variable {P : Program} {ops : Array Oper} {Q : Exit → Act → World → Prop} {md : Region.Mode} {S : World → Prop} {n : Nat}

/-- Whatever order is picked from here on; S holds behind every operation ahead of number n. -/
def wpAnyT (P : Program) (md : Region.Mode) (ops : Array Oper) (Q : Exit → Act → World → Prop) (S : World → Prop) (n : Nat) : Nat → Array Bool → Act → World → Prop
  | 0, listed, a, w => Region.ready md ops listed = [] ∧ Q .normal a w
  | fuel + 1, listed, a, w =>
    (Region.ready md ops listed = [] → Q .normal a w) ∧
    ∀ i ∈ Region.ready md ops listed, wpOp P ops Q i (fun a' w' => (i < n → S w') ∧ wpAnyT P md ops Q S n fuel (listed.setIfInBounds i true) a' w') a w

theorem wpAny_of_T : ∀ (fuel : Nat) (listed : Array Bool) (a : Act) (w : World), wpAnyT P md ops Q S n fuel listed a w → wpAny P md ops Q fuel listed a w
  | 0, _, _, _, h => h
  | fuel + 1, _, _, _, h => ⟨h.1, fun i hi => wpOp_mono (fun a' w' h' => wpAny_of_T fuel _ a' w' h'.2) (h.2 i hi)⟩

/-- The operations from number n on wait for number i. -/
def waitsB (md : Region.Mode) (ops : Array Oper) (n i : Nat) : Bool :=
  (List.range ops.size).all fun j => j < n || match ops[j]? with
    | some o => o.after.any fun e => Region.binds md e && e.on == i
    | none => true
theorem waits_spec {i : Nat} (h : waitsB md ops n i = true) (j : Nat) (oj : Oper) (hj : ops[j]? = some oj) (hn : n ≤ j) : ∃ e ∈ oj.after, Region.binds md e = true ∧ e.on = i := by
  have hlt : j < ops.size := (Array.getElem?_eq_some_iff.1 hj).1
  unfold waitsB at h
  rw [List.all_eq_true] at h
  have h1 := h j (List.mem_range.2 hlt)
  rw [hj] at h1
  simp only [Bool.or_eq_true, decide_eq_true_eq, Array.any_eq_true', Bool.and_eq_true, beq_iff_eq] at h1
  rcases h1 with h1 | ⟨e, he, h2, h3⟩
  · omega
  · exact ⟨e, he, h2, h3⟩

theorem wpAnyT_first {i : Nat} {oi : Oper} {v : Value} (hi : ops[i]? = some oi) (hsel : ∀ (j : Nat) (o : Oper) cs b, ops[j]? = some o → o.op ≠ .select cs b)
    (hQ : ∀ c a w, Q (.panic c) (a.put oi.dst v) w → Q (.panic c) a w) (hwt : ∀ (j : Nat) (oj : Oper), ops[j]? = some oj → n ≤ j → ∃ e ∈ oj.after, Region.binds md e = true ∧ e.on = i) :
    ∀ (fuel : Nat) (listed : Array Bool) (a : Act) (w : World),
      (∀ j oj, ops[j]? = some oj → j ≠ i → listed.getD j true = false → (∀ e ∈ oj.after, Region.binds md e = true → e.on ≠ i) → oi.apart ops oj = true) →
      i ∈ Region.ready md ops listed → YieldsIf P ops S oi v a → S w →
      wpAnyT P md ops Q S n fuel (listed.setIfInBounds i true) (a.put oi.dst v) w → wpAnyT P md ops Q S n (fuel + 1) listed a w := by
  intro fuel
  induction fuel with
  | zero =>
    intro listed a w _ hr hy hS H
    refine ⟨fun h => (by rw [h] at hr; cases hr), fun j hj => ?_⟩
    by_cases hji : j = i
    · subst hji; exact hy.wpOp hi hS ⟨fun _ => hS, H⟩
    · have := ready_mono hj hji
      rw [H.1] at this
      cases this
  | succ fuel ih =>
    intro listed a w hfree hr hy hS H
    refine ⟨fun h => (by rw [h] at hr; cases hr), fun j hj => ?_⟩
    by_cases hji : j = i
    · subst hji; exact hy.wpOp hi hS ⟨fun _ => hS, H⟩
    · have h1 := H.2 j (ready_mono hj hji)
      obtain ⟨hjun, oj, hoj, hall⟩ := mem_ready.1 hj
      have hnot : ∀ e ∈ oj.after, Region.binds md e = true → e.on ≠ i := fun e he hb heq => by
        have h1 := hall e he hb
        have h0 := (mem_ready.1 hr).1
        rw [heq] at h1
        rcases Nat.lt_or_ge i listed.size with h' | h'
        · simp [h'] at h0 h1; rw [h0] at h1; cases h1
        · simp [Array.getElem?_eq_none h'] at h1
      have hjn : j < n := (Nat.lt_or_ge j n).resolve_right fun hn => by
        obtain ⟨e, he, hb, heq⟩ := hwt j oj hoj hn
        exact hnot e he hb heq
      have h2 := wpOp_putIf hoj (hfree j oj hoj hji hjun hnot) (fun cs b => hsel i oi cs b hi) (fun cs b => hsel j oj cs b hoj) hQ hy h1
      have hfree' : ∀ k ok, ops[k]? = some ok → k ≠ i → (listed.setIfInBounds j true).getD k true = false →
          (∀ e ∈ ok.after, Region.binds md e = true → e.on ≠ i) → oi.apart ops ok = true := fun k ok hk hki hun hno => by
        refine hfree k ok hk hki ?_ hno
        by_cases hjk : j = k
        · subst hjk; exact hjun
        · rw [getD_set_ne true hjk] at hun; exact hun
      refine wpOp_mono (fun a' w' h3 => ⟨fun _ => h3.2.1 hjn, ih (listed.setIfInBounds j true) a' w' hfree' (ready_mono hr (Ne.symm hji)) h3.1 (h3.2.1 hjn) ?_⟩) h2
      rw [Array.setIfInBounds_comm _ _ hji]
      exact h3.2.2

theorem wpAnyT_take {i : Nat} {oi : Oper} {v : Value} {fuel : Nat} {listed : Array Bool} {a : Act} {w : World} (hi : ops[i]? = some oi)
    (hr : (Region.ready md ops listed).contains i = true) (hs : Region.noSelect ops = true) (hf : Region.free md ops listed i = true) (hw : waitsB md ops n i = true)
    (hQ : ∀ c a w, Q (.panic c) (a.put oi.dst v) w → Q (.panic c) a w) (hy : YieldsIf P ops S oi v a) (hS : S w)
    (h : wpAnyT P md ops Q S n fuel (listed.setIfInBounds i true) (a.put oi.dst v) w) : wpAnyT P md ops Q S n (fuel + 1) listed a w :=
  wpAnyT_first hi (Region.noSelect_spec hs) hQ (waits_spec hw) fuel listed a w (Region.free_spec hi hf) (by simpa using hr) hy hS h

/-- One operation alone may come up: behind it, if it is ahead of number n, S is to be shown anew. -/
theorem wpAnyT_one {i : Nat} {o : Oper} {fuel : Nat} {listed : Array Bool} {a : Act} {w : World} (hr : Region.ready md ops listed = [i]) (ho : ops[i]? = some o)
    (h : ∀ K : Act → World → Prop, Shut (∀ a w, (i < n → S w) → ((i < n → S w) → wpAnyT P md ops Q S n fuel (listed.setIfInBounds i true) a w) → K a w) → if Region.wanted o (yielded ops a.tmps) = true then Oper.wp P o a w K Q else K (a.put o.dst undef) w) :
    wpAnyT P md ops Q S n (fuel + 1) listed a w := by
  refine ⟨fun h0 => absurd h0 (by rw [hr]; simp), fun j hj => ?_⟩
  rw [hr] at hj
  obtain rfl : j = i := by simpa using hj
  exact wpOp_step ho fun K hK => h K fun a w hS hW => hK a w ⟨hS, hW hS⟩
theorem wpAnyT_done {listed : Array Bool} {a : Act} {w : World} (hr : Region.ready md ops listed = []) (h : Q .normal a w) : ∀ fuel, wpAnyT P md ops Q S n fuel listed a w
  | 0 => ⟨hr, h⟩
  | _ + 1 => ⟨fun _ => h, by rw [hr]; simp⟩
/-- The beginning. -/
theorem wp_region_T {id : Nat} {a : Act} {w : World} (S : World → Prop) (n : Nat) (hm : P.follows .mixedOrders = true) (h : wpAnyT P .any ops Q S n ops.size (Array.replicate ops.size false) a w.drew) : (Code.region id ops true).wp P Q a w :=
  wp_region_any hm (wpAny_of_T _ _ _ _ h)
end
end Go.Proofs.YtckdgmjekfpcjaaDoor

namespace Go.Proofs.YtckdgmjekfpcjaaDoor
open Go.RowKit Go.Proofs
section
variable {P : Program} {ops : Array Oper} {Q : Exit → Act → World → Prop} {md : Region.Mode} {S : World → Prop} {n : Nat}
/-- Two operations may come up. -/
theorem wpAnyT_two {i j : Nat} {o o' : Oper} {fuel : Nat} {listed : Array Bool} {a : Act} {w : World} (hr : Region.ready md ops listed = [i, j]) (ho : ops[i]? = some o) (ho' : ops[j]? = some o')
    (h : ∀ K : Act → World → Prop, Shut (∀ a w, (i < n → S w) → ((i < n → S w) → wpAnyT P md ops Q S n fuel (listed.setIfInBounds i true) a w) → K a w) → if Region.wanted o (yielded ops a.tmps) = true then Oper.wp P o a w K Q else K (a.put o.dst undef) w)
    (h' : ∀ K : Act → World → Prop, Shut (∀ a w, (j < n → S w) → ((j < n → S w) → wpAnyT P md ops Q S n fuel (listed.setIfInBounds j true) a w) → K a w) → if Region.wanted o' (yielded ops a.tmps) = true then Oper.wp P o' a w K Q else K (a.put o'.dst undef) w) :
    wpAnyT P md ops Q S n (fuel + 1) listed a w := by
  refine ⟨fun h0 => absurd h0 (by rw [hr]; simp), fun k hk => ?_⟩
  rw [hr] at hk
  rcases List.mem_cons.1 hk with rfl | hk
  · exact wpOp_step ho fun K hK => h K fun a w hS hW => hK a w ⟨hS, hW hS⟩
  · obtain rfl : k = j := by simpa using hk
    exact wpOp_step ho' fun K hK => h' K fun a w hS hW => hK a w ⟨hS, hW hS⟩
end
end Go.Proofs.YtckdgmjekfpcjaaDoor

namespace Go.Proofs.YtckdgmjekfpcjaaDoor
open Go.RowKit
section
variable {P : Program} {ops : Array Oper} {md : Region.Mode} {C : World → Prop}

/-- The head's operations, in whatever order; L of what is behind them. -/
def anyHead (P : Program) (md : Region.Mode) (ops : Array Oper) (C : World → Prop) (n : Nat) (L : Array Bool → Act → Prop) : Nat → Array Bool → Act → Prop
  | 0, listed, a => L listed a
  | f + 1, listed, a => Region.ready md ops listed ≠ [] ∧ ∀ i ∈ Region.ready md ops listed, i < n ∧ qOp P ops C i (anyHead P md ops C n L f (listed.setIfInBounds i true)) a

theorem anyHead_any {n g : Nat} {L : Array Bool → Act → Prop} {Q : Exit → Act → World → Prop} (hL : ∀ listed a w, C w → L listed a → wpAny P md ops Q g listed a w) :
    ∀ (f : Nat) (listed : Array Bool) (a : Act) (w : World), C w → anyHead P md ops C n L f listed a → wpAny P md ops Q (f + g) listed a w
  | 0, listed, a, w, hw, h => by rw [Nat.zero_add]; exact hL _ _ _ hw h
  | f + 1, listed, a, w, hw, h => by
    rw [show f + 1 + g = (f + g) + 1 by omega]
    exact ⟨fun h0 => absurd h0 h.1, fun i hi => wpOp_of_qOp hw (fun a' w' hw' h' => anyHead_any hL f _ a' w' hw' h') (h.2 i hi).2⟩

theorem anyHead_first {n i : Nat} {oi : Oper} {v : Value} {L : Array Bool → Act → Prop} (hi : ops[i]? = some oi) (hsel : ∀ (j : Nat) (o : Oper) cs b, ops[j]? = some o → o.op ≠ .select cs b)
    (hs : Region.sinkB md ops n = true) (hc : Region.chainB md ops n = true) (hn : n < ops.size) (hin : i < n) (hdone : ∀ listed a, L listed a → ∀ j ∈ Region.ready md ops listed, n ≤ j) (f : Nat) :
    ∀ (listed : Array Bool) (a : Act), HeadInv md ops n listed →
      (∀ j oj, ops[j]? = some oj → j ≠ i → listed.getD j true = false → (∀ e ∈ oj.after, Region.binds md e = true → e.on ≠ i) → oi.apart ops oj = true) →
      i ∈ Region.ready md ops listed → YieldsIn P ops C oi v a → anyHead P md ops C n L f (listed.setIfInBounds i true) (a.put oi.dst v) → anyHead P md ops C n L (f + 1) listed a := by
  have below_n : ∀ (listed : Array Bool), HeadInv md ops n listed → i ∈ Region.ready md ops listed → ∀ j ∈ Region.ready md ops listed, j < n := fun listed inv hr j hj =>
    (Nat.lt_or_ge j n).resolve_right fun h => absurd hj (tail_waits hs hc hn inv _ i rfl hin (mem_ready.1 hr).1 j h)
  induction f with
  | zero =>
    intro listed a inv _ hr hy H
    refine ⟨fun h => (by rw [h] at hr; cases hr), fun j hj => ⟨below_n listed inv hr j hj, ?_⟩⟩
    by_cases hji : j = i
    · subst hji; exact hy.qOp hi H
    · have h1 := hdone _ _ H j (ready_mono hj hji)
      have h2 := below_n listed inv hr j hj
      omega
  | succ f ih =>
    intro listed a inv hfree hr hy H
    refine ⟨fun h => (by rw [h] at hr; cases hr), fun j hj => ⟨below_n listed inv hr j hj, ?_⟩⟩
    by_cases hji : j = i
    · subst hji; exact hy.qOp hi H
    · obtain ⟨hjun, oj, hoj, hall⟩ := mem_ready.1 hj
      have hnot : ∀ e ∈ oj.after, Region.binds md e = true → e.on ≠ i := fun e he hb heq => by
        have h3 := hall e he hb
        rw [heq, getD_both (mem_ready.1 hr).1] at h3
        cases h3
      refine qOp_mono (fun a' h3 => ?_) (qOp_put hoj (hfree j oj hoj hji hjun hnot) (fun cs b => hsel i oi cs b hi) (fun cs b => hsel j oj cs b hoj) hy (H.2 j (ready_mono hj hji)).2)
      refine ih _ a' (inv.set hj (below_n listed inv hr j hj)) (fun k ok hk hki hun hno => hfree k ok hk hki ?_ hno) (ready_mono hr (Ne.symm hji)) h3.1 ?_
      · by_cases hjk : j = k
        · subst hjk; exact hjun
        · rwa [getD_set_ne true hjk] at hun
      · rw [Array.setIfInBounds_comm _ _ hji]
        exact h3.2

theorem anyHead_lex {n g : Nat} {Lq : Act → Prop} (hsel : Region.noSelect ops = true) (hs : Region.sinkB md ops n = true) (hc : Region.chainB md ops n = true) (hn : n < ops.size) :
    ∀ (l : List Oper) (k : Nat) (listed : Array Bool) (a : Act), (∀ j, j < l.length → l[j]? = ops[k + j]?) → k + l.length = n → HeadInv md ops n listed →
    Region.lexHead md ops g l.length k listed = true → wpQuiet P ops C Lq l a → anyHead P md ops C n (fun listed' a' => Region.seqB md ops g n listed' = true ∧ Lq a') l.length listed a
  | [], k, listed, a, _, hk, _, hB, h => by
    obtain rfl : k = n := by simpa using hk
    exact ⟨by simpa [Region.lexHead] using hB, h⟩
  | o :: l, k, listed, a, hl, hk, inv, hB, h => by
    have h0 : ops[k]? = some o := by simpa using (hl 0 (by simp)).symm
    simp only [List.length_cons, Region.lexHead, Bool.and_eq_true] at hB
    have hkn : k < n := by simp only [List.length_cons] at hk; omega
    have hr' : k ∈ Region.ready md ops listed := by simpa using hB.1.1
    have hst : qOp P ops C k (wpQuiet P ops C Lq l) a := by unfold qOp; simp only [h0]; exact h
    obtain ⟨v, hy, hK⟩ := yieldsIn_of_qOp h0 hst
    refine anyHead_first h0 (Region.noSelect_spec hsel) hs hc hn hkn (fun _ _ hL => seqB_ready hL.1) l.length listed a inv (Region.free_spec h0 hB.1.2) hr' hy ?_
    refine anyHead_lex hsel hs hc hn l (k + 1) _ _ (fun j hj => ?_) (by simp only [List.length_cons] at hk; omega) (inv.set hr' hkn) hB.2 hK
    have := hl (j + 1) (by simp; omega)
    simpa [Nat.add_assoc, Nat.add_comm 1 j] using this

/-- The head in the order of the text, quiet in the class; the tail in every world of the class. -/
theorem wp_quiet_tail {id : Nat} {Q : Exit → Act → World → Prop} {a : Act} {w : World} {l : List Oper} (n : Nat) (hm : P.follows .mixedOrders = true) (hB : Region.lexTailB .any l.toArray n = true) (hC : C { w with drawn := w.drawn + 1 })
    (h : wpQuiet P l.toArray C (fun a' => ∀ w', C w' → wpList P l.toArray Q (l.drop n) a' w') (l.take n) a) : (Code.region id l.toArray true).wp P Q a w := by
  simp only [Region.lexTailB, Bool.and_eq_true, decide_eq_true_eq] at hB
  obtain ⟨⟨⟨⟨hsel, hn⟩, hs⟩, hc⟩, hlex⟩ := hB
  have htl : (l.take n).length = n := by simp at hn ⊢; omega
  have hdl : (l.drop n).length = l.toArray.size - n := by simp
  have inv0 : HeadInv .any l.toArray n (Array.replicate l.toArray.size false) :=
    ⟨by simp, fun j oj _ hl => (by rw [getD_replicate_false] at hl; cases hl), fun t _ ht => getD_in (by simpa using ht) (getD_replicate_false _ _)⟩
  have H := anyHead_lex (md := .any) (g := l.toArray.size - n) hsel hs hc hn (l.take n) 0 _ a (fun j hj => by
    rw [htl] at hj; simp [hj]) (by simpa using htl) inv0 (by rw [htl]; exact hlex) h
  refine wp_region_any hm ?_
  have K := anyHead_any (Q := Q) (g := l.toArray.size - n) (fun listed a' w' hw' hL => by
    have := wpAny_of_seq (md := .any) (Q' := Q) (l.drop n) n listed a' w' (fun j => by simp [List.getElem?_drop]) (by rw [hdl]; exact hL.1) (hL.2 w' hw')
    rwa [hdl] at this) _ _ _ _ hC H
  rwa [htl, show n + (l.toArray.size - n) = l.toArray.size by omega] at K
end

/-- A later world: of what was there nothing has turned. -/
structure Later (w : World) where
  x : World
  h : Below w.heap.size w x
instance {w : World} : Inhabited (Later w) := ⟨⟨w, Below.refl _ w⟩⟩

theorem Later.cell {w : World} {a : Addr} {v : Value} (h : w.cell? a = some v) (p : Later w) : p.x.cell? a = some v := (p.h.cell (World.block_lt_of_cell? w a h)).trans h
theorem later_calls {P : Program} {f : FuncId} {args : Array Value} {w : World} {v : Value} (p : Later w)
    (h : Calls P f args p.x fun e w' => e = .returned v ∧ Below p.x.heap.size p.x w') : Calls P f args p.x fun e w'' => e = .returned v ∧ ∃ q : Later w, w'' = q.x :=
  h.mono fun _ w' ⟨he, hb⟩ => ⟨he, ⟨⟨w', p.h.trans (hb.mono p.h.size)⟩, rfl⟩⟩
theorem later_same {P : Program} {f : FuncId} {args : Array Value} {w : World} {v : Value} (p : Later w)
    (h : Calls P f args p.x fun e w' => e = .returned v ∧ p.x = w') : Calls P f args p.x fun e w'' => e = .returned v ∧ ∃ q : Later w, w'' = q.x :=
  h.mono fun _ _ ⟨he, hb⟩ => ⟨he, ⟨p, hb.symm⟩⟩
theorem wp_later {P : Program} {id : Nat} {Q : Exit → Act → World → Prop} {a : Act} {w : World} {l : List Oper} (hm : P.follows .mixedOrders = true) (hB : Region.lexB .any l.toArray = true)
    (h : wpQuiet P l.toArray (fun w' => ∃ p : Later w, w' = p.x) (fun a' => ∀ w', (∃ p : Later w, w' = p.x) → Q .normal a' w') l a) : (Code.region id l.toArray true).wp P Q a w :=
  wp_region_quiet (C := fun w' => ∃ p : Later w, w' = p.x) hm hB ⟨⟨_, (Below.refl _ w).drew⟩, rfl⟩ (by simpa using h)
theorem wp_later_tail {P : Program} {id : Nat} {Q : Exit → Act → World → Prop} {a : Act} {w : World} {l : List Oper} (n : Nat) (hm : P.follows .mixedOrders = true) (hB : Region.lexTailB .any l.toArray n = true)
    (h : wpQuiet P l.toArray (fun w' => ∃ p : Later w, w' = p.x) (fun a' => ∀ w', (∃ p : Later w, w' = p.x) → wpList P l.toArray Q (l.drop n) a' w') (l.take n) a) : (Code.region id l.toArray true).wp P Q a w :=
  wp_quiet_tail n hm hB ⟨⟨_, (Below.refl _ w).drew⟩, rfl⟩ h
/-- Two boxes laid one behind the other: their cells, later. -/
theorem two_cells {w w' : World} {A B : Array Value} {t u : TypeId} (hb : Below ((w.alloc (.cells A t)).alloc (.cells B u)).heap.size ((w.alloc (.cells A t)).alloc (.cells B u)) w') :
    (∀ (j : Nat) (v : Value), A[j]? = some v → w'.cell? ⟨w.heap.size, j, none⟩ = some v) ∧ (∀ (j : Nat) (v : Value), B[j]? = some v → w'.cell? ⟨w.heap.size + 1, j, none⟩ = some v) := by
  constructor
  · intro j v h
    rw [hb.cell (p := ⟨w.heap.size, j, none⟩) (by simp; omega), World.cell?_alloc_lt _ _ _ (by simp)]
    exact (cell_of_row _ _ _ _ _ _ (heap_alloc_new w _)).trans h
  · intro j v h
    rw [hb.cell (p := ⟨w.heap.size + 1, j, none⟩) (by simp)]
    have := heap_alloc_new (w.alloc (.cells A t)) (.cells B u)
    rw [show (w.alloc (.cells A t)).heap.size = w.heap.size + 1 by simp] at this
    exact (cell_of_row _ _ _ _ _ _ this).trans h
end Go.Proofs.YtckdgmjekfpcjaaDoor

namespace Go.Proofs.YtckdgmjekfpcjaaDoor
open Go.RowKit Go.Proofs

def bcells (l : List UInt8) : List Value := l.map fun b => Value.int .u8 b.toNat
theorem bcells_length (l : List UInt8) : (bcells l).length = l.length := List.length_map _
theorem bcells_append (a b : List UInt8) : bcells (a ++ b) = bcells a ++ bcells b := List.map_append
theorem bcells_str (s : ByteArray) : Lib.strCells s = bcells s.data.toList := rfl
theorem bcells_one (l : List UInt8) : ∀ u ∈ bcells l, u.oneCell' = true := by
  intro u hu
  obtain ⟨b, _, rfl⟩ := List.mem_map.1 hu
  rfl

/-- What a type []byte is. -/
structure Byte8 (P : Program) (t e : TypeId) (i : TypeInfo) : Prop where
  ht : P.underlying t = some (.slice e)
  hi : P.info? e = some i
  hz : i.zero = some (.int .u8 0)
  hsize : i.size = 1
  hby : i.bytes = 1

def Buf (B : Nat) (e : TypeId) (W0 w : World) (l : List UInt8) (v : Value) : Prop := Lib.OwnBuf B e v l.length (bcells l) W0 w
/-- From block g's head on lie these bytes. -/
def Src (w : World) (g : Nat) (l : List UInt8) : Prop := ∀ j u, (bcells l)[j]? = some u → w.cell? ((⟨g, 0, none⟩ : Addr).add j) = some u

theorem Buf.nil {B : Nat} {e : TypeId} {W0 w : World} (h : Below B W0 w) (hB : B ≤ w.heap.size) : Buf B e W0 w [] (.slice none 0 0) := ⟨World.ownsRowF_nil _ _ _ _, h, hB⟩
theorem Buf.below {B : Nat} {e : TypeId} {W0 w : World} {l : List UInt8} {v : Value} (h : Buf B e W0 w l v) : Below B W0 w := h.2.1
theorem Buf.later {B : Nat} {e : TypeId} {W0 w w' : World} {l : List UInt8} {v : Value} (h : Buf B e W0 w l v) (hb : Below w.heap.size w w') : Buf B e W0 w' l v :=
  ⟨h.1.kept (row := none) ⟨hb.os, hb.tape, hb.output, hb.size, fun k hk _ => hb.block k hk⟩ (by cases v.ownBlock <;> simp), h.2.1.trans (hb.mono h.2.2), Nat.le_trans h.2.2 hb.size⟩
theorem Buf.base {B B' : Nat} {e : TypeId} {W0 W0' w : World} {l : List UInt8} {v : Value} (h : Buf B e W0 w l v) (hB : B' ≤ B) (k : Below B' W0' W0) : Buf B' e W0' w l v := by
  refine ⟨⟨h.1.1, ?_⟩, k.trans (h.2.1.mono hB), Nat.le_trans hB h.2.2⟩
  rcases h.1.2 with h0 | ⟨g, cap, cur, fz, hv, hb, hg, hr⟩
  · exact .inl h0
  · exact .inr ⟨g, cap, cur, fz, hv, Nat.le_trans hB hb, hg, hr⟩
theorem Buf.form {B : Nat} {e : TypeId} {W0 w : World} {l : List UInt8} {v : Value} (h : Buf B e W0 w l v) (hl : l ≠ []) : ∃ g cap, v = .slice (some ⟨g, 0, none⟩) l.length cap ∧ l.length ≤ cap := by
  rcases h.1.2 with ⟨_, h0⟩ | ⟨g, cap, cur, fz, hv, hb, hg, _, hc, _⟩
  · exact absurd (List.eq_nil_of_length_eq_zero h0) hl
  · exact ⟨g, cap, hv, hc⟩
theorem Buf.any {B : Nat} {e : TypeId} {W0 w : World} {l : List UInt8} {v : Value} (h : Buf B e W0 w l v) : ∃ a cap, v = .slice a l.length cap ∧ l.length ≤ cap ∧ cap ≤ 9223372036854775807 := by
  rcases h.1.2 with ⟨hv, h0⟩ | ⟨g, cap, cur, fz, hv, hb, hg, _, hc, hm, _⟩
  · exact ⟨none, 0, by rw [hv, h0], by omega, by omega⟩
  · exact ⟨_, cap, hv, hc, by unfold maxLen at hm; omega⟩
theorem Buf.src {B : Nat} {e : TypeId} {W0 w : World} {l : List UInt8} {g n c : Nat} (h : Buf B e W0 w l (.slice (some ⟨g, 0, none⟩) n c)) : Src w g l := h.1.cells (g := g) rfl
theorem Src.later {w w' : World} {g : Nat} {l : List UInt8} (h : Src w g l) (hb : Below w.heap.size w w') : Src w' g l := fun j u hu => (hb.cell (World.block_lt_of_cell? w _ (h j u hu))).trans (h j u hu)
/-- The bytes of a slice that was just built. -/
theorem src_new {w : World} {g : Nat} (l : List UInt8) {cs : Array Value} (t : TypeId) (hc : cs = (bcells l).toArray) (hg : g = w.heap.size) : Src (w.alloc (.cells cs t)) g l := by
  subst hc
  exact cells_new w g hg (bcells l) t
theorem buf_new {W0 w : World} (l : List UInt8) {cs : Array Value} {e : TypeId} {B : Nat} (hb : Below B W0 w) (hB : B ≤ w.heap.size) (hc : cs = (bcells l).toArray) (hl : l.length ≤ maxLen) :
    Buf B e W0 (w.alloc (.cells cs e)) l (.slice (some ⟨w.heap.size, 0, none⟩) l.length l.length) := by
  subst hc
  refine ⟨World.ownsRowF_of ?_, hb.alloc hB _, Nat.le_trans hB (below_new w (.cells (bcells l).toArray e)).size⟩
  have := World.ownsRow_lit (base := B) (e := e) (size := 1) w (bcells l).toArray l.length hB hl (by simp [bcells_length])
  simpa using this

section
variable {P : Program} {t e : TypeId} {i : TypeInfo} {o : Oper} {a : Act} {Q : Exit → Act → World → Prop} {B : Nat} {W0 w : World} {l : List UInt8} {v : Value}

theorem wp_buf_made {K : Act → World → Prop} (s x : Operand) (ho : o.op = .call { callee := .builtin .append, args := #[s, x], argTypes := #[t, t] }) (hP : Byte8 P t e i) (hs : a.eval s = v) (hb : Buf B e W0 w l v)
    (l' : List UInt8) (g m c : Nat) (hx : a.eval x = .slice (some ⟨g, 0, none⟩) m c) (hm : m = l'.length) (hsrc : Src w g l') (hlen : l.length + l'.length ≤ 140737488355328)
    (h : ∀ v' w', Buf B e W0 w' (l ++ l') v' → K (a.put o.dst v') w') : o.wp P a w K Q := by
  subst hm
  obtain ⟨v', w', hr, h2, h3, h4⟩ := run_append_ownF (P := P) w B t o.type e i (.int .u8 0) 1 1 hP.ht hP.hi hP.hz hP.hsize hP.hby rfl (by decide) v l.length (bcells l) hb.1 ⟨g, 0, none⟩ l'.length c (bcells l') (by simp [bcells_length]) hsrc (bcells_one l') (by unfold maxLen; omega) (by omega) hb.2.2
  unfold Oper.wp execOp
  simp only [ho, resolve, invoke, builtin, Sem.run_bind, Sem.run_pure, Result.andThen_ok, List.map_toArray, List.map_cons, List.map_nil, hs, hx, hr]
  exact h v' w' (by unfold Buf; rw [List.length_append, bcells_append]; exact Lib.OwnBuf.grown hb h2 h3)
theorem wp_buf_text {K : Act → World → Prop} {u : TypeId} (s x : Operand) (ho : o.op = .call { callee := .builtin .append, args := #[s, x], argTypes := #[t, u] }) (hP : Byte8 P t e i) (hu : P.underlying u = some .string) (hs : a.eval s = v) (hb : Buf B e W0 w l v)
    (str : ByteArray) (hx : a.eval x = .string str) (hlen : l.length + str.size ≤ 140737488355328)
    (h : ∀ v' w', Buf B e W0 w' (l ++ str.data.toList) v' → K (a.put o.dst v') w') : o.wp P a w K Q := by
  obtain ⟨v', w', hr, h2, h3, h4⟩ := Lib.run_append_own_stringF (P := P) w B t u o.type e i hP.ht hu hP.hi hP.hz hP.hsize hP.hby v l.length (bcells l) hb.1 str (by unfold maxLen; omega) hlen hb.2.2
  unfold Oper.wp execOp
  simp only [ho, resolve, invoke, builtin, Sem.run_bind, Sem.run_pure, Result.andThen_ok, List.map_toArray, List.map_cons, List.map_nil, hs, hx, hr]
  refine h v' w' ?_
  unfold Buf
  rw [List.length_append, bcells_append, show str.data.toList.length = str.size by simp]
  exact Lib.OwnBuf.grown hb h2 h3

theorem wpList_buf_made {ops : Array Oper} {rest : List Oper} (hgd : o.guard = none) (s x : Operand) (ho : o.op = .call { callee := .builtin .append, args := #[s, x], argTypes := #[t, t] }) (hP : Byte8 P t e i) (hs : a.eval s = v) (hb : Buf B e W0 w l v)
    (l' : List UInt8) (g m c : Nat) (hx : a.eval x = .slice (some ⟨g, 0, none⟩) m c) (hm : m = l'.length) (hsrc : Src w g l') (hlen : l.length + l'.length ≤ 140737488355328)
    (h : ∀ v' w', Buf B e W0 w' (l ++ l') v' → wpList P ops Q rest (a.put o.dst v') w') : wpList P ops Q (o :: rest) a w :=
  wpList_plain hgd fun _ hK => wp_buf_made s x ho hP hs hb l' g m c hx hm hsrc hlen fun v' w' h' => hK _ _ (h v' w' h')
theorem wpList_buf_text {ops : Array Oper} {rest : List Oper} {u : TypeId} (hgd : o.guard = none) (s x : Operand) (ho : o.op = .call { callee := .builtin .append, args := #[s, x], argTypes := #[t, u] }) (hP : Byte8 P t e i) (hu : P.underlying u = some .string) (hs : a.eval s = v) (hb : Buf B e W0 w l v)
    (str : ByteArray) (hx : a.eval x = .string str) (hlen : l.length + str.size ≤ 140737488355328)
    (h : ∀ v' w', Buf B e W0 w' (l ++ str.data.toList) v' → wpList P ops Q rest (a.put o.dst v') w') : wpList P ops Q (o :: rest) a w :=
  wpList_plain hgd fun _ hK => wp_buf_text s x ho hP hu hs hb str hx hlen fun v' w' h' => hK _ _ (h v' w' h')
theorem step_buf_made {ops : Array Oper} {K : Act → World → Prop} {E : Prop} (hgd : o.guard = none) (s x : Operand) (ho : o.op = .call { callee := .builtin .append, args := #[s, x], argTypes := #[t, t] }) (hP : Byte8 P t e i) (hs : a.eval s = v) (hb : Buf B e W0 w l v)
    (l' : List UInt8) (g m c : Nat) (hx : a.eval x = .slice (some ⟨g, 0, none⟩) m c) (hm : m = l'.length) (hsrc : Src w g l') (hlen : l.length + l'.length ≤ 140737488355328)
    (h : ∀ v' w', Buf B e W0 w' (l ++ l') v' → K (a.put o.dst v') w') : if Region.wanted o (yielded ops a.tmps) = true then Oper.wp P o a w K Q else E := by
  rw [if_pos (by simp [Region.wanted, hgd])]
  exact wp_buf_made s x ho hP hs hb l' g m c hx hm hsrc hlen h
theorem step_buf_text {ops : Array Oper} {K : Act → World → Prop} {E : Prop} {u : TypeId} (hgd : o.guard = none) (s x : Operand) (ho : o.op = .call { callee := .builtin .append, args := #[s, x], argTypes := #[t, u] }) (hP : Byte8 P t e i) (hu : P.underlying u = some .string) (hs : a.eval s = v) (hb : Buf B e W0 w l v)
    (str : ByteArray) (hx : a.eval x = .string str) (hlen : l.length + str.size ≤ 140737488355328)
    (h : ∀ v' w', Buf B e W0 w' (l ++ str.data.toList) v' → K (a.put o.dst v') w') : if Region.wanted o (yielded ops a.tmps) = true then Oper.wp P o a w K Q else E := by
  rw [if_pos (by simp [Region.wanted, hgd])]
  exact wp_buf_text s x ho hP hu hs hb str hx hlen h
end
end Go.Proofs.YtckdgmjekfpcjaaDoor

namespace Go.Proofs.YtckdgmjekfpcjaaDoor
open Go.RowKit

section
variable {P : Program}
/-- append to a row of the call's own: the row stays where it was or lies in new memory. -/
theorem run_append_apart (w : World) (base : Nat) (t ty e : TypeId) (i : TypeInfo) (z : Value) (size bytes : Nat) (ht : P.underlying t = some (.slice e)) (hi : P.info? e = some i) (hz : i.zero = some z)
    (hsize : i.size = size) (hby : i.bytes = bytes) (hzs : z.cells.size = size) (hsz : 0 < size)
    (v : Value) (n : Nat) (xs : List Value) (hown : w.ownsRow base e size v n xs)
    (a : Addr) (m c : Nat) (news : List Value) (hl : news.length = m * size) (hnews : ∀ j u, news[j]? = some u → w.cell? (a.add j) = some u) (h1 : ∀ u ∈ news, u.oneCell' = true)
    (h63 : n + m ≤ maxLen) (hbytes : (n + m) * bytes ≤ 140737488355328) (hbase : base ≤ w.heap.size) :
    ∃ v' w', (Builtin.append_ #[t, t] ty #[v, .slice (some a) m c]).run P w = .ok v' w' ∧ w'.ownsRow base e size v' (n + m) (xs ++ news) ∧ w.grownBy w' v.ownBlock ∧
      (∀ b, v'.ownBlock = some b → v.ownBlock = some b ∨ w.heap.size ≤ b) ∧ (∀ g cap, v = .slice (some ⟨g, 0, none⟩) n cap → n + m ≤ cap → v' = .slice (some ⟨g, 0, none⟩) (n + m) cap) := by
  obtain ⟨v', w', hr, h2, h3, _⟩ := run_append_own (P := P) w base t ty e i z size bytes ht hi hz hsize hby hzs hsz v n xs hown a m c news hl hnews h1 h63 hbytes hbase
  refine ⟨v', w', hr, h2, h3, ?_⟩
  rcases hown.2 with ⟨rfl, rfl⟩ | ⟨g, cap, cur, rfl, hbg, hg, hnc, hcm, hcs, htake⟩
  · have hx : xs = [] := List.eq_nil_of_length_eq_zero (by simpa using hown.1)
    subst hx
    obtain ⟨v2, w2, hr2, h22, _, _⟩ := run_append_own (P := P) w w.heap.size t ty e i z size bytes ht hi hz hsize hby hzs hsz _ 0 [] (World.ownsRow_nil w w.heap.size e size) a m c news hl hnews h1 h63 hbytes (Nat.le_refl _)
    obtain ⟨rfl, rfl⟩ : v2 = v' ∧ w2 = w' := by
      have := hr2.symm.trans hr
      injection this with a b
      exact ⟨a, b⟩
    exact ⟨fun b hb => .inr (h22.lt b hb).1, fun g cap h => by injection h with h; cases h⟩
  · by_cases hroom : n + m ≤ cap
    · obtain ⟨w2, hr2, _, _⟩ := run_append_fits (P := P) w base t ty e i size ht hi hsize g n cap xs hown a m c news hl hnews h1 hroom
      have := hr2.symm.trans hr
      injection this with h4 h5
      subst h4
      exact ⟨fun b hb => .inl hb, fun g' cap' he _ => by injection he with h6 h7 h8; injection h6 with h6; injection h6 with h6; subst h6 h8; rfl⟩
    · have holds : ∀ j u, xs[j]? = some u → w.cell? ((⟨g, 0, none⟩ : Addr).add j) = some u := hown.cells (g := g) rfl
      subst hsize
      subst hby
      have hr2 := run_append_grow (P := P) w t ty e i z ht hi hz ⟨g, 0, none⟩ n cap xs hown.1 holds a m c news hl hnews (by omega) (by simp only [maxLen] at h63; omega) (growslice_fits (by omega) hbytes)
      have := hr2.symm.trans hr
      injection this with h4 h5
      subst h4
      exact ⟨fun b hb => .inr (by simp only [Value.ownBlock, Option.some.injEq] at hb; omega), fun g' cap' he hr => by injection he with h6 h7 h8; subst h8; exact absurd hr hroom⟩
end

/-- How an element reads from its cells. -/
structure RowRel {α : Type} (R : World → (Nat → Prop) → α → List Value → Prop) (sz : Nat) : Prop where
  keep : ∀ {w w' : World} {S S' : Nat → Prop} {x : α} {cs : List Value}, (∀ b, S b → S' b) → (∀ b, S b → w'.heap[b]? = w.heap[b]?) → R w S x cs → R w' S' x cs
  one : ∀ {w : World} {S : Nat → Prop} {x : α} {cs : List Value}, R w S x cs → ∀ u ∈ cs, u.oneCell' = true
  len : ∀ {w : World} {S : Nat → Prop} {x : α} {cs : List Value}, R w S x cs → cs.length = sz

theorem valRel : RowRel Rd 5 := ⟨fun h1 h2 h => h.keep h1 h2, fun h => h.one, fun h => h.len⟩

/-- A field's cells. -/
def RdFl (w : World) (S : Nat → Prop) (x : ByteArray × PVal) (cs : List Value) : Prop := ∃ ys, cs = .string x.1 :: ys ∧ x.1.size ≤ 140737488355328 ∧ Rd w S x.2 ys
theorem fldRel : RowRel RdFl 6 :=
  ⟨fun h1 h2 ⟨ys, a, b, h⟩ => ⟨ys, a, b, h.keep h1 h2⟩, fun ⟨ys, a, _, h⟩ u hu => by
    subst a
    rcases List.mem_cons.1 hu with rfl | hu
    · rfl
    · exact h.one u hu, fun ⟨ys, a, _, h⟩ => by rw [a, List.length_cons, h.len]⟩

/-- Blocks from B on, the slice's own row not among them. -/
def Apart (B : Nat) (w : World) (v : Value) (b : Nat) : Prop := B ≤ b ∧ b < w.heap.size ∧ v.ownBlock ≠ some b
/-- Blocks from B on. -/
def From (B : Nat) (w : World) (b : Nat) : Prop := B ≤ b ∧ b < w.heap.size
/-- A slice of the call's own, its row in a block from A on; what its elements lead to lies in blocks from B on, the row not among them. -/
def OwnG {α : Type} (R : World → (Nat → Prop) → α → List Value → Prop) (sz A B e : Nat) (w : World) (xs : List α) (v : Value) : Prop :=
  ∃ css : List (List Value), css.length = xs.length ∧ w.ownsRow A e sz v xs.length css.flatten ∧ ∀ (i : Nat) (x : α) (cs : List Value), xs[i]? = some x → css[i]? = some cs → R w (Apart B w v) x cs

section
variable {α : Type} {R : World → (Nat → Prop) → α → List Value → Prop} {sz A B e : Nat}
theorem OwnG.nil (w : World) : OwnG R sz A B e w [] (.slice none 0 0) := ⟨[], rfl, World.ownsRow_nil _ _ _ _, fun i x cs h => by simp at h⟩
theorem OwnG.empty {w : World} {v : Value} (h : w.ownsRow A e sz v 0 []) : OwnG R sz A B e w [] v := ⟨[], rfl, h, fun i x cs h => by simp at h⟩
theorem OwnG.lt {w : World} {xs : List α} {v : Value} (h : OwnG R sz A B e w xs v) (b : Nat) (hb : v.ownBlock = some b) : A ≤ b ∧ b < w.heap.size := by
  obtain ⟨css, _, ho, _⟩ := h
  exact ho.lt b hb
theorem OwnG.form {w : World} {xs : List α} {v : Value} (h : OwnG R sz A B e w xs v) : ∃ a c, v = .slice a xs.length c ∧ xs.length ≤ c := by
  obtain ⟨css, _, ho, _⟩ := h
  rcases ho.2 with ⟨rfl, h0⟩ | ⟨g, cap, cur, rfl, _, _, hc, _⟩
  · exact ⟨none, 0, by rw [h0], by omega⟩
  · exact ⟨_, cap, rfl, hc⟩
/-- The world turns elsewhere: the slice stays. -/
theorem OwnG.keep (hR : RowRel R sz) {w w' : World} {xs : List α} {v : Value} (h : OwnG R sz A B e w xs v) (hsz : w.heap.size ≤ w'.heap.size) (ho : ∀ b, v.ownBlock = some b → w'.heap[b]? = w.heap[b]?) (hb : ∀ b, Apart B w v b → w'.heap[b]? = w.heap[b]?) : OwnG R sz A B e w' xs v := by
  obtain ⟨css, hlen, hr0, hr⟩ := h
  refine ⟨css, hlen, ⟨hr0.1, ?_⟩, fun i x cs hx hc => hR.keep (fun b h => ⟨h.1, Nat.lt_of_lt_of_le h.2.1 hsz, h.2.2⟩) hb (hr i x cs hx hc)⟩
  rcases hr0.2 with hn | ⟨g, cap, cur, rfl, hB, hg, rest⟩
  · exact .inl hn
  · exact .inr ⟨g, cap, cur, rfl, hB, (ho g rfl).trans hg, rest⟩
theorem OwnG.later (hR : RowRel R sz) {w w' : World} {xs : List α} {v : Value} (h : OwnG R sz A B e w xs v) (hb : Below w.heap.size w w') : OwnG R sz A B e w' xs v :=
  h.keep hR hb.size (fun b hl => hb.block b (h.lt b hl).2) (fun b hl => hb.block b hl.2.1)

theorem OwnG.push (hR : RowRel R sz) {w w' : World} {xs : List α} {v v' : Value} {css : List (List Value)} {x : α} {cs : List Value}
    (hlen : css.length = xs.length) (hr : ∀ (i : Nat) (y : α) (ys : List Value), xs[i]? = some y → css[i]? = some ys → R w (Apart B w v) y ys)
    (ho : w'.ownsRow A e sz v' (xs.length + 1) (css.flatten ++ cs)) (hk : ∀ b, Apart B w v b → w'.heap[b]? = w.heap[b]?) (hS : ∀ b, Apart B w v b → Apart B w' v' b) (hx : R w (Apart B w v) x cs) : OwnG R sz A B e w' (xs ++ [x]) v' := by
  refine ⟨css ++ [cs], by simp [hlen], by simpa using ho, fun i y ys hy hys => ?_⟩
  rcases Nat.lt_trichotomy i xs.length with hlt | heq | hgt
  · rw [List.getElem?_append_left hlt] at hy
    rw [List.getElem?_append_left (by omega)] at hys
    exact hR.keep hS hk (hr i y ys hy hys)
  · subst heq
    rw [List.getElem?_append_right (Nat.le_refl _)] at hy
    rw [List.getElem?_append_right (by omega)] at hys
    simp at hy
    simp [hlen] at hys
    subst hy hys
    exact hR.keep hS hk hx
  · rw [List.getElem?_append_right (by omega)] at hy
    obtain ⟨m, hm⟩ : ∃ m, i - xs.length = m + 1 := ⟨i - xs.length - 1, by omega⟩
    rw [hm] at hy
    simp at hy

/-- append of one element, as a step of a plain list of operations or of a region that draws. -/
theorem wp_append_g {P : Program} (hR : RowRel R sz) (w : World) {o : Oper} {a : Act} {K : Act → World → Prop} {Q : Exit → Act → World → Prop} (s x : Operand) (t : TypeId)
    (ho : o.op = .call { callee := .builtin .append, args := #[s, x], argTypes := #[t, t] })
    (A B e bytes : Nat) (i : TypeInfo) (z : Value) (ht : P.underlying t = some (.slice e)) (hi : P.info? e = some i) (hz : i.zero = some z) (hsize : i.size = sz) (hby : i.bytes = bytes) (hzs : z.cells.size = sz) (hsz : 0 < sz)
    (xs : List α) (v : Value) (hs : a.eval s = v) (hown : OwnG R sz A B e w xs v)
    (ad : Addr) (c : Nat) (cs : List Value) (X : α) (hx : a.eval x = .slice (some ad) 1 c) (hcs : ∀ j u, cs[j]? = some u → w.cell? (ad.add j) = some u) (hX : R w (Apart B w v) X cs)
    (hlim : (xs.length + 1) * bytes ≤ 140737488355328) (hlim' : xs.length + 1 ≤ maxLen) (hB : A ≤ w.heap.size)
    (h : ∀ v' w', OwnG R sz A B e w' (xs ++ [X]) v' → w.grownBy w' v.ownBlock → (∀ b, v'.ownBlock = some b → v.ownBlock = some b ∨ w.heap.size ≤ b) → (∀ g cap, v = .slice (some ⟨g, 0, none⟩) xs.length cap → xs.length + 1 ≤ cap → v' = .slice (some ⟨g, 0, none⟩) (xs.length + 1) cap) → K (a.put o.dst v') w') : o.wp P a w K Q := by
  obtain ⟨css, hlen, hor, hr⟩ := hown
  obtain ⟨v', w', hrun, h2, h3, h4, h5⟩ := run_append_apart (P := P) w A t o.type e i z sz bytes ht hi hz hsize hby hzs hsz v xs.length css.flatten hor ad 1 c cs (by rw [hR.len hX, Nat.one_mul]) hcs (hR.one hX) hlim' hlim hB
  unfold Oper.wp execOp
  simp only [ho, resolve, invoke, builtin, Sem.run_bind, Sem.run_pure, Result.andThen_ok, List.map_toArray, List.map_cons, List.map_nil, hs, hx, hrun]
  refine h v' w' (OwnG.push hR hlen hr h2 (fun b hb => h3.block b hb.2.1 (fun he => hb.2.2 he.symm)) (fun b hb => ⟨hb.1, Nat.lt_of_lt_of_le hb.2.1 h3.size, fun he => ?_⟩) hX) h3 h4 h5
  rcases h4 b he with h6 | h6
  · exact hb.2.2 h6
  · have := hb.2.1; omega
theorem wpList_append_g {P : Program} (hR : RowRel R sz) (w : World) {ops : Array Oper} {rest : List Oper} {o : Oper} {a : Act} {Q : Exit → Act → World → Prop} (hgd : o.guard = none) (s x : Operand) (t : TypeId)
    (ho : o.op = .call { callee := .builtin .append, args := #[s, x], argTypes := #[t, t] })
    (A B e bytes : Nat) (i : TypeInfo) (z : Value) (ht : P.underlying t = some (.slice e)) (hi : P.info? e = some i) (hz : i.zero = some z) (hsize : i.size = sz) (hby : i.bytes = bytes) (hzs : z.cells.size = sz) (hsz : 0 < sz)
    (xs : List α) (v : Value) (hs : a.eval s = v) (hown : OwnG R sz A B e w xs v)
    (ad : Addr) (c : Nat) (cs : List Value) (X : α) (hx : a.eval x = .slice (some ad) 1 c) (hcs : ∀ j u, cs[j]? = some u → w.cell? (ad.add j) = some u) (hX : R w (Apart B w v) X cs)
    (hlim : (xs.length + 1) * bytes ≤ 140737488355328) (hlim' : xs.length + 1 ≤ maxLen) (hB : A ≤ w.heap.size)
    (h : ∀ v' w', OwnG R sz A B e w' (xs ++ [X]) v' → w.grownBy w' v.ownBlock → (∀ b, v'.ownBlock = some b → v.ownBlock = some b ∨ w.heap.size ≤ b) → (∀ g cap, v = .slice (some ⟨g, 0, none⟩) xs.length cap → xs.length + 1 ≤ cap → v' = .slice (some ⟨g, 0, none⟩) (xs.length + 1) cap) → wpList P ops Q rest (a.put o.dst v') w') : wpList P ops Q (o :: rest) a w :=
  wpList_plain hgd fun _ hK => wp_append_g hR w s x t ho A B e bytes i z ht hi hz hsize hby hzs hsz xs v hs hown ad c cs X hx hcs hX hlim hlim' hB fun v' w' h2 h3 h4 h5 => hK _ _ (h v' w' h2 h3 h4 h5)
theorem step_append_g {P : Program} (hR : RowRel R sz) (w : World) {ops : Array Oper} {o : Oper} {a : Act} {K : Act → World → Prop} {Q : Exit → Act → World → Prop} {E : Prop} (hgd : o.guard = none) (s x : Operand) (t : TypeId)
    (ho : o.op = .call { callee := .builtin .append, args := #[s, x], argTypes := #[t, t] })
    (A B e bytes : Nat) (i : TypeInfo) (z : Value) (ht : P.underlying t = some (.slice e)) (hi : P.info? e = some i) (hz : i.zero = some z) (hsize : i.size = sz) (hby : i.bytes = bytes) (hzs : z.cells.size = sz) (hsz : 0 < sz)
    (xs : List α) (v : Value) (hs : a.eval s = v) (hown : OwnG R sz A B e w xs v)
    (ad : Addr) (c : Nat) (cs : List Value) (X : α) (hx : a.eval x = .slice (some ad) 1 c) (hcs : ∀ j u, cs[j]? = some u → w.cell? (ad.add j) = some u) (hX : R w (Apart B w v) X cs)
    (hlim : (xs.length + 1) * bytes ≤ 140737488355328) (hlim' : xs.length + 1 ≤ maxLen) (hB : A ≤ w.heap.size)
    (h : ∀ v' w', OwnG R sz A B e w' (xs ++ [X]) v' → w.grownBy w' v.ownBlock → (∀ b, v'.ownBlock = some b → v.ownBlock = some b ∨ w.heap.size ≤ b) → (∀ g cap, v = .slice (some ⟨g, 0, none⟩) xs.length cap → xs.length + 1 ≤ cap → v' = .slice (some ⟨g, 0, none⟩) (xs.length + 1) cap) → K (a.put o.dst v') w') : if Region.wanted o (yielded ops a.tmps) = true then Oper.wp P o a w K Q else E := by
  rw [if_pos (by simp [Region.wanted, hgd])]
  exact wp_append_g hR w s x t ho A B e bytes i z ht hi hz hsize hby hzs hsz xs v hs hown ad c cs X hx hcs hX hlim hlim' hB h
theorem OwnG.box (hR : RowRel R sz) {w : World} {xs : List α} {v : Value} (h : OwnG R sz A B e w xs v) (p : Addr) (u : Value) (hp : v.ownBlock ≠ some p.block) (hb : p.block < B) : OwnG R sz A B e (w.setCell p u) xs v :=
  h.keep hR (by simp [World.setCell]) (fun b hb => heap_setCell_other _ _ _ _ (by rintro rfl; exact hp hb)) (fun b h => heap_setCell_other _ _ _ _ (by have := h.1; omega))
theorem grown_from {w w' : World} {A B : Nat} {e sz : TypeId} {xs : List α} {v : Value} (hown : OwnG R sz A B e w xs v) (h : w.grownBy w' v.ownBlock) (hA : A ≤ w.heap.size) : Below A w w' :=
  ⟨h.os, h.tape, h.output, h.size, fun k hk => h.block k (by omega) (fun he => by have := (hown.lt k he.symm).1; omega)⟩

/-- The cells of element i of a slice of the call's own. -/
theorem OwnG.row (hR : RowRel R sz) {w : World} {xs : List α} {v : Value} (h : OwnG R sz A B e w xs v) :
    (v = .slice none 0 0 ∧ xs = []) ∨ ∃ g cap, v = .slice (some ⟨g, 0, none⟩) xs.length cap ∧ xs.length ≤ cap ∧ cap ≤ maxLen ∧ A ≤ g ∧ g < w.heap.size ∧
      ∃ cs : Nat → List Value, (∀ i, i < xs.length → ∀ j u, (cs i)[j]? = some u → w.cell? ⟨g, 0 + i * sz + j, none⟩ = some u) ∧ ∀ (i : Nat) (x : α), xs[i]? = some x → R w (Apart B w v) x (cs i) := by
  obtain ⟨css, hlen, ho, hr⟩ := h
  have h5 : ∀ cs ∈ css, cs.length = sz := by
    intro cs hcs
    obtain ⟨i, hi⟩ := List.getElem?_of_mem hcs
    have hil : i < xs.length := by rw [← hlen]; exact (List.getElem?_eq_some_iff.1 hi).1
    exact hR.len (hr i _ cs (List.getElem?_eq_getElem hil) hi)
  have hcs : ∀ i, i < xs.length → css[i]? = some (css.getD i []) := by
    intro i hi
    have : i < css.length := by omega
    simp [List.getD, List.getElem?_eq_getElem this]
  rcases ho.2 with ⟨rfl, h0⟩ | ⟨g, cap, cur, rfl, hb, hg, hnc, hcm, hsz, htk⟩
  · exact .inl ⟨rfl, List.eq_nil_of_length_eq_zero h0⟩
  · refine .inr ⟨g, cap, rfl, hnc, hcm, hb, (ho.lt g rfl).2, fun i => css.getD i [], fun i hi j u hu => ?_, fun i x hx => ?_⟩
    · have h1 := flatten_at sz css h5 i _ (hcs i hi) j u hu
      have h2 := ho.cells (g := g) rfl _ _ h1
      have h3 : (⟨g, 0, none⟩ : Addr).add (i * sz + j) = ⟨g, 0 + i * sz + j, none⟩ := by
        rw [Addr.add]
        split
        · congr 1; omega
        · show (⟨g, 0 + (i * sz + j), none⟩ : Addr) = ⟨g, 0 + i * sz + j, none⟩
          rw [Nat.add_assoc]
      rw [h3] at h2; exact h2
    · have hi : i < xs.length := (List.getElem?_eq_some_iff.1 hx).1
      exact hr i x _ hx (hcs i hi)
end

theorem OwnG.readL {w : World} {S : Nat → Prop} {A B e : Nat} {xs : List PVal} {v : Value} (h : OwnG Rd 5 A B e w xs v) (ho : ∀ b, v.ownBlock = some b → S b) (hS : ∀ b, Apart B w v b → S b) (hn : xs.length ≤ 1759218604441) : RdL w S xs v := by
  rcases h.row valRel with ⟨rfl, rfl⟩ | ⟨g, cap, rfl, h1, h2, h3, h4, cs, h5, h6⟩
  · exact ⟨none, 0, fun _ => [], rfl, Nat.le_refl _, by simp, .inl rfl, fun i x hx => by simp at hx⟩
  · exact ⟨some ⟨g, 0, none⟩, cap, cs, rfl, h1, ⟨by unfold maxLen at h2; omega, hn⟩, .inr ⟨g, 0, rfl, ho g rfl, h5⟩, fun i x hx => (h6 i x hx).keep hS (fun _ _ => rfl)⟩
theorem OwnG.readF {w : World} {S : Nat → Prop} {A B e : Nat} {xs : List (ByteArray × PVal)} {v : Value} (h : OwnG RdFl 6 A B e w xs v) (ho : ∀ b, v.ownBlock = some b → S b) (hS : ∀ b, Apart B w v b → S b) (hn : xs.length ≤ 1466015503701) : RdF w S (xs.map Prod.fst) (xs.map Prod.snd) v := by
  have hz : ∀ a ∈ xs.map Prod.fst, a.size ≤ 140737488355328 := by
    intro a ha
    obtain ⟨x, hx, rfl⟩ := List.mem_map.1 ha
    obtain ⟨i, hi⟩ := List.getElem?_of_mem hx
    obtain ⟨css, hlen, ho, hr⟩ := h
    obtain ⟨cs, hcs⟩ : ∃ cs, css[i]? = some cs := ⟨_, List.getElem?_eq_getElem (by have := (List.getElem?_eq_some_iff.1 hi).1; omega)⟩
    obtain ⟨_, _, h2, _⟩ := hr i x cs hi hcs
    exact h2
  refine ⟨by simp, hz, ?_⟩
  rcases h.row fldRel with ⟨rfl, rfl⟩ | ⟨g, cap, rfl, h1, h2, h3, h4, cs, h5, h6⟩
  · exact ⟨none, 0, fun _ => [], rfl, Nat.le_refl _, by simp, .inl rfl, fun i x hx => by simp at hx⟩
  · refine ⟨some ⟨g, 0, none⟩, cap, fun i => (cs i).tail, by rw [List.length_map], by rw [List.length_map]; exact h1, ⟨by unfold maxLen at h2; omega, by rw [List.length_map]; exact hn⟩, .inr ⟨g, 0, rfl, ho g rfl, fun i hi j u hu => ?_⟩, fun i x hx => ?_⟩
    · rw [List.length_map] at hi
      have hx : xs[i]? = some xs[i] := List.getElem?_eq_getElem hi
      obtain ⟨ys, hc, _, _⟩ := h6 i _ hx
      have hg : (xs.map Prod.fst).getD i ByteArray.empty = xs[i].1 := by simp [List.getD, hx]
      refine h5 i hi j u ?_
      simp only [hg, hc, List.tail_cons] at hu
      rw [hc]
      exact hu
    · rw [List.getElem?_map] at hx
      obtain ⟨y, hy, rfl⟩ := Option.map_eq_some_iff.1 hx
      obtain ⟨ys, hc, _, hr⟩ := h6 i _ hy
      simp only [hc, List.tail_cons]
      exact hr.keep hS (fun _ _ => rfl)

theorem rd_mk {w : World} {S : Nat → Prop} {k n : Int} {s : ByteArray} {l : List PVal} {fn : List ByteArray} {fv : List PVal} {vl vf : Value} (hk : -9223372036854775808 ≤ k ∧ k ≤ 9223372036854775807) (hn : -9223372036854775808 ≤ n ∧ n ≤ 9223372036854775807) (hs : s.size ≤ 140737488355328)
    (hL : RdL w S l vl) (hF : RdF w S fn fv vf) : Rd w S (.mk k n s l fn fv) [.int .i64 k, .int .i64 n, .string s, vl, vf] := by
  obtain ⟨la, lc, lcs, rfl, h1, h2, h3, h4⟩ := hL
  obtain ⟨hlen, hfs, fa, fc, fcs, rfl, g1, g2, g3, g4⟩ := hF
  exact .mk lcs fcs hk hn hs hfs hlen h1 h2 g1 g2 h3 h4 g3 g4
theorem rdL_nil {w : World} {S : Nat → Prop} : RdL w S [] (.slice none 0 0) := ⟨none, 0, fun _ => [], rfl, Nat.le_refl _, by simp, .inl rfl, fun i x hx => by simp at hx⟩
theorem rdF_nil {w : World} {S : Nat → Prop} : RdF w S [] [] (.slice none 0 0) := ⟨rfl, by simp, none, 0, fun _ => [], rfl, Nat.le_refl _, by simp, .inl rfl, fun i x hx => by simp at hx⟩
/-- A slice of bytes in blocks of which S holds. -/
def BytesAt (w : World) (S : Nat → Prop) (l : List UInt8) (v : Value) : Prop :=
  ∃ (a : Option Addr) (cap : Nat), v = .slice a l.length cap ∧ l.length ≤ cap ∧ cap ≤ 9223372036854775807 ∧
    (l = [] ∨ ∃ b off, a = some ⟨b, off, none⟩ ∧ S b ∧ ∀ (j : Nat) (c : UInt8), l[j]? = some c → w.cell? ⟨b, off + j, none⟩ = some (.int .u8 c.toNat))
theorem BytesAt.keep {w w' : World} {S S' : Nat → Prop} {l : List UInt8} {v : Value} (h : BytesAt w S l v) (hS : ∀ b, S b → S' b) (hb : ∀ b, S b → w'.heap[b]? = w.heap[b]?) : BytesAt w' S' l v := by
  obtain ⟨a, cap, h1, h2, h3, h4⟩ := h
  refine ⟨a, cap, h1, h2, h3, ?_⟩
  rcases h4 with h4 | ⟨b, off, h4, h5, h6⟩
  · exact .inl h4
  · exact .inr ⟨b, off, h4, hS b h5, fun j c hc => (World.cell?_of_block (w := w) (hb b h5)).trans (h6 j c hc)⟩
theorem BytesAt.later {w w' : World} {l : List UInt8} {v : Value} (h : BytesAt w (Now w) l v) (hb : Below w.heap.size w w') : BytesAt w' (Now w') l v :=
  h.keep (fun _ hk => Nat.lt_of_lt_of_le hk hb.size) (fun b hk => hb.block b hk)
theorem Buf.bytes {B : Nat} {e : TypeId} {W0 w : World} {l : List UInt8} {v : Value} (h : Buf B e W0 w l v) : BytesAt w (Now w) l v := by
  obtain ⟨a, cap, rfl, h2, h3⟩ := h.any
  refine ⟨a, cap, rfl, h2, h3, ?_⟩
  by_cases hl : l = []
  · exact .inl hl
  · obtain ⟨g, cap', he, _⟩ := h.form hl
    injection he with e1 e2 e3
    subst e1
    have hs := h.src
    have hlt : g < w.heap.size := by
      cases l with
      | nil => exact absurd rfl hl
      | cons c r => exact World.block_lt_of_cell? w _ (hs 0 (.int .u8 c.toNat) rfl)
    refine .inr ⟨g, 0, rfl, hlt, fun j c hc => ?_⟩
    have := hs j (.int .u8 c.toNat) (by simp [bcells, hc])
    rwa [show (⟨g, 0, none⟩ : Addr).add j = ⟨g, 0 + j, none⟩ by rw [Addr.add]; split <;> simp_all] at this
end Go.Proofs.YtckdgmjekfpcjaaDoor
