/-
  The two tables of unicode/utf8, from the rows' list to the world ('Tabs'), and a world that holds them (for the witness).
  Arguments that are values, read from memory as data: each reads as a plain value. Condition: the form's own reach.
-/
import Derived.Test.YtckdgmjekfpcjaaDoorCards
import Derived.Test.YtckdgmjekfpcjaaDoorTie
import Derived.Test.YtckdgmjekfpcjaaDoorMgShelfA
import Derived.Lib.LaidIn
import Derived.Lib.LaidU8T
import Derived.Deep.DeepHandedRow
import Derived.Deep.DeepWitnessRowRef
import Derived.ProofKit
import Derived.OpenShut
import Derived.ShutString
import Derived.Test.YtckdgmjekfpcjaaDoorMgPlain
import Derived.SizedLaws
import Derived.ChangeArms
import Derived.DataReads
import Derived.Carry
namespace Go.Proofs.YtckdgmjekfpcjaaDoor
open Go.Shelf Go.ChangeShapes Go.WideShapes Go.ChangeAt Go.RowKit Go.Lib

theorem own : ownKnob Tryd.prog.godebug = none := by kernel_rfl
theorem tabs_of {W : World} (h : laidMetH Tryd.prog [("unicode/utf8.acceptRanges", Rows.laid_unicode_utf8_acceptRanges), ("unicode/utf8.first", Rows.laid_unicode_utf8_first)] W) : Tabs W := by
  have hL : laidMet Tryd.prog [("unicode/utf8.acceptRanges", acceptData), ("unicode/utf8.first", firstData)] W := by
    have e : [("unicode/utf8.acceptRanges", (Rows.laid_unicode_utf8_acceptRanges : DataW Unit)), ("unicode/utf8.first", Rows.laid_unicode_utf8_first)] = [("unicode/utf8.acceptRanges", acceptData), ("unicode/utf8.first", firstData)] := by kernel_rfl
    rw [← e]; exact h
  exact utf8Tabs_of_readsT (U8Types.of196 Tryd.lays196) ⟨by kernel_rfl, by kernel_rfl, by kernel_rfl, by kernel_rfl, by kernel_rfl, by kernel_rfl, by kernel_rfl⟩ (Lib.laidMet.reads hL (.tail _ (.head _))) (Lib.laidMet.reads hL (.head _))

/-- The settled world, the two variables holding what their initialisers lay. -/
noncomputable def laidWorld (os : Os) : World :=
  let w0 := World.holding Tryd.prog os ⟨#[], #[], []⟩
  let put (h : Array Obj) (g : Nat) (cs : Array Value) : Array Obj := h.modify g fun
    | .cells _ t frozen => .cells cs t frozen
    | o => o
  let h1 := put w0.heap 1 (Lib.firstTab.map fun z => Value.int .u8 z).toArray
  let h2 := put h1 2 ((List.range 16).flatMap fun i => [Value.int .u8 (Lib.accLo i), Value.int .u8 (Lib.accHi i)]).toArray
  { w0 with heap := h2 }
theorem laid_met (os : Os) (args : Array Value) : laidMet Tryd.prog [("unicode/utf8.acceptRanges", Rows.laid_unicode_utf8_acceptRanges), ("unicode/utf8.first", Rows.laid_unicode_utf8_first)] ((laidWorld os).forCall (fun _ _ => 0) ⟨#[], args, []⟩).memory :=
  (LaidIn.of_run (l := [("unicode/utf8.acceptRanges", Rows.laid_unicode_utf8_acceptRanges), ("unicode/utf8.first", Rows.laid_unicode_utf8_first)]) [1, 2] 8 (by kernel_rfl) (by kernel_rfl) (by kernel_rfl) (by kernel_rfl)).met
end Go.Proofs.YtckdgmjekfpcjaaDoor

namespace Go.Proofs.YtckdgmjekfpcjaaDoor
open Go.RowKit Go.Proofs Go.WideShapes

theorem list_of {α : Type} {M : Nat → α → Prop} : ∀ (n : Nat), (∀ i, i < n → ∃ V, M i V) → ∃ l : List α, l.length = n ∧ ∀ (i : Nat) (x : α), l[i]? = some x → M i x
  | 0, _ => ⟨[], rfl, fun i x h => by simp at h⟩
  | n + 1, h => by
    obtain ⟨l, hl, hm⟩ := list_of n (fun i hi => h i (by omega))
    obtain ⟨V, hV⟩ := h n (by omega)
    refine ⟨l ++ [V], by simp [hl], fun i x hx => ?_⟩
    rcases Nat.lt_trichotomy i l.length with hlt | heq | hgt
    · rw [List.getElem?_append_left hlt] at hx; exact hm i x hx
    · subst heq; simp at hx; subst hx; rw [hl]; exact hV
    · rw [List.getElem?_eq_none (by simp; omega)] at hx; cases hx
theorem len2 {α : Type} {l : List α} (h : l.length = 2) : ∃ a b, l = [a, b] := by
  match l, h with
  | [a, b], _ => exact ⟨a, b, rfl⟩
theorem len5 {α : Type} {l : List α} (h : l.length = 5) : ∃ a b c d e, l = [a, b, c, d, e] := by
  match l, h with
  | [a, b, c, d, e], _ => exact ⟨a, b, c, d, e, rfl⟩
theorem len6 {α : Type} {l : List α} (h : l.length = 6) : ∃ a b c d e f, l = [a, b, c, d, e, f] := by
  match l, h with
  | [a, b, c, d, e, f], _ => exact ⟨a, b, c, d, e, f, rfl⟩
theorem addr_add (b off n : Nat) : (⟨b, off, none⟩ : Addr).add n = ⟨b, off + n, none⟩ := by
  unfold Addr.add
  split
  · congr 1; omega
  · rfl
theorem cell_spot {w : World} {a : Addr} {v : Value} (h : w.cell? a = some v) : a.spot = none := by
  unfold World.cell? at h
  split at h
  · split at h
    · cases h
    · rename_i hs; simpa using hs
  · cases h
/-- The rows of a slice that is read as data. -/
theorem row_of {w : World} {base len sz : Nat} {a : Addr} (hsz : 0 < sz) (h : ∀ i, i < len → ∃ cs, w.cells? base (a.add (i * sz)) sz = some cs) :
    RowAt w (Now w) (some a) len sz (fun i => (w.cells? base (a.add (i * sz)) sz).getD []) := by
  by_cases hl : len = 0
  · exact .inl hl
  · right
    obtain ⟨cs, hc⟩ := h 0 (by omega)
    obtain ⟨_, hcl, hat⟩ := World.cells?_some hc
    have h0 := hat 0 hsz
    rw [List.getElem?_eq_getElem (by omega), Nat.zero_mul] at h0
    have ha : (a.add 0).add 0 = a := by simp [Addr.add]
    rw [ha] at h0
    have hsp := cell_spot h0
    have hblk := World.block_lt_of_cell? w a h0
    obtain ⟨b, off, sp⟩ := a
    subst hsp
    refine ⟨b, off, rfl, hblk, fun i hi j v hv => ?_⟩
    obtain ⟨ci, hci⟩ := h i hi
    simp only [hci, Option.getD_some] at hv
    obtain ⟨_, hcl', hat'⟩ := World.cells?_some hci
    have hj : j < sz := by rw [← hcl']; exact (List.getElem?_eq_some_iff.1 hv).1
    have := hat' j hj
    rw [addr_add, addr_add, hv] at this
    exact this

section
variable {H : Type} {enc : TypeId × Value → H} {w : World} {base : Nat} {spare : Nat → Bool} {held : Bool}
theorem all_le {l : List Nat} (h : l.all (· ≤ reachBytes) = true) : ∀ n ∈ l, n ≤ reachBytes := fun n hn => by simpa using List.all_eq_true.1 h n hn
theorem weights_mem_all {P : Program} {e : TypeId} : ∀ {ds : List (DataW H)} {i : Nat} {d : DataW H}, ds[i]? = some d → ∀ n ∈ d.weights P e, n ∈ DataW.weightsAll P e ds
  | [], _, _, h, _, _ => by simp at h
  | x :: r, 0, d, h, n, hn => by
    simp at h; subst h
    simp only [DataW.weightsAll, List.mem_append]; exact .inl hn
  | x :: r, i + 1, d, h, n, hn => by
    simp only [DataW.weightsAll, List.mem_append]
    exact .inr (weights_mem_all (by simpa using h) n hn)

theorem cells_val : Tryd.prog.cellsOf 27 = 5 := by kernel_rfl
theorem cells_field : Tryd.prog.cellsOf 33 = 6 := by kernel_rfl
theorem cells_int : Tryd.prog.cellsOf 3 = 1 := by kernel_rfl
theorem cells_int64 : Tryd.prog.cellsOf 2 = 1 := by kernel_rfl
theorem cells_string : Tryd.prog.cellsOf 9 = 1 := by kernel_rfl
theorem cells_vals : Tryd.prog.cellsOf 25 = 1 := by kernel_rfl
theorem cells_fields : Tryd.prog.cellsOf 22 = 1 := by kernel_rfl
theorem bytes_val : Tryd.prog.bytesOf 27 = 80 := by kernel_rfl
theorem bytes_field : Tryd.prog.bytesOf 33 = 96 := by kernel_rfl

theorem massL_le : ∀ (l : List PVal) (es : List (DataW H × List MemPlace)), l.length ≤ es.length → (∀ (i : Nat) (x : PVal), l[i]? = some x → ∀ y, es[i]? = some y → x.mass ≤ 32 * Rows.uptoBulk y.1) → massL l ≤ 32 * Rows.uptoBulkAll (es.map (·.1))
  | [], _, _, _ => by simp [massL]
  | x :: r, [], h, _ => by simp at h
  | x :: r, e :: es, h, hm => by
    have h1 := hm 0 x rfl e rfl
    have h2 := massL_le r es (by simpa using h) (fun i x hx y hy => hm (i + 1) x (by simpa using hx) y (by simpa using hy))
    simp only [massL, List.map_cons, Rows.uptoBulkAll]
    omega
theorem massF_le : ∀ (l : List (ByteArray × PVal)) (es : List (DataW H × List MemPlace)), l.length ≤ es.length → (∀ (i : Nat) (x : ByteArray × PVal), l[i]? = some x → ∀ y, es[i]? = some y → 32 + x.1.size + x.2.mass ≤ 32 * Rows.uptoBulk y.1) →
    massF (l.map (·.1)) + massL (l.map (·.2)) ≤ 32 * Rows.uptoBulkAll (es.map (·.1))
  | [], _, _, _ => by simp [massL, massF]
  | x :: r, [], h, _ => by simp at h
  | x :: r, e :: es, h, hm => by
    have h1 := hm 0 x rfl e rfl
    have h2 := massF_le r es (by simpa using h) (fun i x hx y hy => hm (i + 1) x (by simpa using hx) y (by simpa using hy))
    simp only [massL, massF, List.map_cons, Rows.uptoBulkAll]
    omega
/-- A slice of values, its elements read already. -/
theorem rdL_of {n : Nat} {c : Value} {y : DataW H × List MemPlace} (ih : ∀ m, m < n → ∀ (cs : List Value) (x : DataW H × List MemPlace), DataW.trod enc Tryd.prog w base spare held m 27 cs = some x → (∀ k ∈ DataW.weights Tryd.prog 27 x.1, k ≤ reachBytes) → ∃ V, Rd w (Now w) V cs ∧ V.mass ≤ 32 * Rows.uptoBulk x.1)
    (h : DataW.trod enc Tryd.prog w base spare held n 25 [c] = some y) (hw : ∀ k ∈ DataW.weights Tryd.prog 25 y.1, k ≤ reachBytes) : ∃ l, RdL w (Now w) l c ∧ massL l ≤ 32 * Rows.uptoBulk y.1 := by
  rcases DataW.trod_slice Tryd.underlying25 h with ⟨hc, _⟩ | ⟨a, len, cap, elems, rest, m, rfl, hc, rfl, hb, hlc, hcm, helen, hel, _, _⟩
  · have hc : c = .slice none 0 0 := by simpa using hc
    subst hc
    exact ⟨[], ⟨none, 0, fun _ => [], rfl, Nat.le_refl _, by simp, .inl rfl, fun i x hx => by simp at hx⟩, by simp [massL]⟩
  · have hc : c = .slice (some a) len cap := by simpa using hc
    subst hc
    simp only [DataW.weights, Tryd.underlying25, bytes_val, List.mem_cons, List.mem_append] at hw
    have hbd := hw _ (.inl rfl)
    simp only [List.length_map, helen] at hbd
    rw [cells_val] at hel
    have hsome : ∀ i, i < len → ∃ cs x, w.cells? base (a.add (i * 5)) 5 = some cs ∧ elems[i]? = some x ∧ DataW.trod enc Tryd.prog w base spare held m 27 cs = some x := by
      intro i hi
      have h1 := hel i hi
      rw [List.getElem?_eq_getElem (by omega)] at h1
      obtain ⟨cs, hcs, hx⟩ := Option.bind_eq_some_iff.1 h1
      exact ⟨cs, _, hcs, List.getElem?_eq_getElem (by omega), hx⟩
    obtain ⟨l, hll, hlr⟩ := list_of (M := fun i V => Rd w (Now w) V ((w.cells? base (a.add (i * 5)) 5).getD []) ∧ ∀ y, elems[i]? = some y → V.mass ≤ 32 * Rows.uptoBulk y.1) len (fun i hi => by
      obtain ⟨cs, x, hcs, hx, ht⟩ := hsome i hi
      obtain ⟨V, hV, hVm⟩ := ih m (by omega) cs x ht (fun k hk => hw k (.inr (.inl (weights_mem_all (i := i) (by simp [hx]) k hk))))
      exact ⟨V, by rw [hcs]; exact hV, fun y hy => by rw [hx] at hy; obtain rfl := Option.some.inj hy; exact hVm⟩)
    subst hll
    refine ⟨l, ⟨some a, cap, _, rfl, hlc, ⟨by unfold maxLen at hcm; omega, ?_⟩, row_of (by decide) (fun i hi => ?_), fun i x hx => (hlr i x hx).1⟩, ?_⟩
    · unfold reachBytes at hbd; omega
    · obtain ⟨cs, x, hcs, _⟩ := hsome i hi
      exact ⟨cs, hcs⟩
    · have := massL_le l elems (by omega) (fun i x hx => (hlr i x hx).2)
      simp only [Rows.uptoBulk]
      omega

set_option maxRecDepth 100000 in
/-- A slice of fields. -/
theorem rdF_of {n : Nat} {c : Value} {y : DataW H × List MemPlace} (ih : ∀ m, m < n → ∀ (cs : List Value) (x : DataW H × List MemPlace), DataW.trod enc Tryd.prog w base spare held m 27 cs = some x → (∀ k ∈ DataW.weights Tryd.prog 27 x.1, k ≤ reachBytes) → ∃ V, Rd w (Now w) V cs ∧ V.mass ≤ 32 * Rows.uptoBulk x.1)
    (h : DataW.trod enc Tryd.prog w base spare held n 22 [c] = some y) (hw : ∀ k ∈ DataW.weights Tryd.prog 22 y.1, k ≤ reachBytes) : ∃ fn fv, RdF w (Now w) fn fv c ∧ massF fn + massL fv ≤ 32 * Rows.uptoBulk y.1 := by
  rcases DataW.trod_slice Tryd.underlying22 h with ⟨hc, _⟩ | ⟨a, len, cap, elems, rest, m, rfl, hc, rfl, hb, hlc, hcm, helen, hel, _, _⟩
  · have hc : c = .slice none 0 0 := by simpa using hc
    subst hc
    exact ⟨[], [], ⟨rfl, (fun x hx => by cases hx), none, 0, fun _ => [], rfl, Nat.le_refl _, by simp, .inl rfl, fun i x hx => by simp at hx⟩, by simp [massL, massF]⟩
  · have hc : c = .slice (some a) len cap := by simpa using hc
    subst hc
    simp only [DataW.weights, Tryd.underlying22, bytes_field, List.mem_cons, List.mem_append] at hw
    have hbd := hw _ (.inl rfl)
    simp only [List.length_map, helen] at hbd
    rw [cells_field] at hel
    have hsome : ∀ i, i < len → ∃ cs x, w.cells? base (a.add (i * 6)) 6 = some cs ∧ elems[i]? = some x ∧ DataW.trod enc Tryd.prog w base spare held m 33 cs = some x := by
      intro i hi
      have h1 := hel i hi
      rw [List.getElem?_eq_getElem (by omega)] at h1
      obtain ⟨cs, hcs, hx⟩ := Option.bind_eq_some_iff.1 h1
      exact ⟨cs, _, hcs, List.getElem?_eq_getElem (by omega), hx⟩
    obtain ⟨l, hll, hlr⟩ := list_of (M := fun i (p : ByteArray × PVal) => ((w.cells? base (a.add (i * 6)) 6).getD []) = .string p.1 :: ((w.cells? base (a.add (i * 6)) 6).getD []).drop 1 ∧ p.1.size ≤ 140737488355328 ∧ Rd w (Now w) p.2 (((w.cells? base (a.add (i * 6)) 6).getD []).drop 1) ∧ ∀ y, elems[i]? = some y → 32 + p.1.size + p.2.mass ≤ 32 * Rows.uptoBulk y.1) len (fun i hi => by
      obtain ⟨cs, x, hcs, hx, ht⟩ := hsome i hi
      obtain ⟨xs, q, rfl, rfl, hlen, hxl, hf⟩ := DataW.trod_struct Tryd.underlying33 ht
      have hwx : ∀ k ∈ DataW.weights Tryd.prog 33 (.agg (xs.map (·.1)) : DataW H), k ≤ reachBytes := fun k hk => hw k (.inr (.inl (weights_mem_all (i := i) (by simp [hx]) k hk)))
      rw [cells_field] at hlen
      obtain ⟨y0, y1, rfl⟩ := len2 hxl
      obtain ⟨c0, c1, c2, c3, c4, c5, rfl⟩ := len6 hlen
      have t0 : DataW.trod enc Tryd.prog w base spare held q 9 (([c0, c1, c2, c3, c4, c5].drop 0).take (Tryd.prog.cellsOf 9)) = some y0 := hf 0 _ rfl
      rw [cells_string] at t0
      have t1 : DataW.trod enc Tryd.prog w base spare held q 27 (([c0, c1, c2, c3, c4, c5].drop 1).take (Tryd.prog.cellsOf 27)) = some y1 := hf 1 _ rfl
      rw [cells_val] at t1
      simp only [DataW.weights, Tryd.underlying33, List.map_cons, List.map_nil, DataW.weightsEach, List.append_nil, List.mem_append] at hwx
      obtain ⟨s, hs, rfl, _⟩ := DataW.trod_string Tryd.underlying9 t0
      have hs : c0 = .string s := by simpa using hs
      subst hs
      obtain ⟨V, hV, hVm⟩ := ih q (by omega) _ _ t1 (fun k hk => hwx k (.inr hk))
      have hsz := hwx s.data.toList.length (.inl (by simp [DataW.weights]))
      refine ⟨(s, V), by rw [hcs]; rfl, ?_, by rw [hcs]; exact hV, fun y hy => ?_⟩
      rotate_left
      · rw [hx] at hy
        obtain rfl := Option.some.inj hy
        simp only [Rows.uptoBulk, Rows.uptoBulkAll, List.map_cons, List.map_nil]
        simp
        omega
      unfold reachBytes at hsz
      simp at hsz
      show s.size ≤ _
      omega)
    subst hll
    refine ⟨l.map (·.1), l.map (·.2), ⟨by simp, fun x hx => ?_, some a, cap, fun i => ((w.cells? base (a.add (i * 6)) 6).getD []).drop 1, by simp, by simpa using hlc, ⟨by unfold maxLen at hcm; omega, ?_⟩, ?_, fun i x hx => ?_⟩, ?_⟩
    · obtain ⟨p, hp, rfl⟩ := List.mem_map.1 hx
      obtain ⟨i, hi⟩ := List.getElem?_of_mem hp
      exact (hlr i p hi).2.1
    · simp only [List.length_map]; unfold reachBytes at hbd; omega
    · have hr := row_of (w := w) (base := base) (a := a) (len := l.length) (sz := 6) (by decide) (fun i hi => by obtain ⟨cs, x, hcs, _⟩ := hsome i hi; exact ⟨cs, hcs⟩)
      rw [List.length_map]
      rcases hr with hr | ⟨b, off, ha, hS, hc⟩
      · exact .inl hr
      · refine .inr ⟨b, off, ha, hS, fun i hi j v hv => hc i hi j v ?_⟩
        have hli : l[i]? = some l[i] := List.getElem?_eq_getElem hi
        have hgd : (l.map (·.1)).getD i ByteArray.empty = (l[i]).1 := by simp [List.getD, hli]
        show ((w.cells? base (a.add (i * 6)) 6).getD [])[j]? = some v
        rw [(hlr i _ hli).1, ← hgd]
        exact hv
    · rw [List.getElem?_map] at hx
      obtain ⟨p, hp, rfl⟩ := Option.map_eq_some_iff.1 hx
      exact (hlr i p hp).2.2.1
    · have := massF_le l elems (by omega) (fun i x hx => (hlr i x hx).2.2.2)
      simp only [Rows.uptoBulk]
      omega

set_option maxRecDepth 100000 in
theorem rd_of : ∀ (n : Nat) (cs : List Value) (x : DataW H × List MemPlace), DataW.trod enc Tryd.prog w base spare held n 27 cs = some x → (∀ k ∈ DataW.weights Tryd.prog 27 x.1, k ≤ reachBytes) → ∃ V, Rd w (Now w) V cs ∧ V.mass ≤ 32 * Rows.uptoBulk x.1 := by
  intro n
  induction n using Nat.strongRecOn with
  | _ n ih =>
  intro cs x h hw
  obtain ⟨xs, m, rfl, rfl, hlen, hxl, hf⟩ := DataW.trod_struct Tryd.underlying27 h
  rw [cells_val] at hlen
  obtain ⟨y0, y1, y2, y3, y4, rfl⟩ := len5 hxl
  obtain ⟨c0, c1, c2, c3, c4, rfl⟩ := len5 hlen
  have t0 : DataW.trod enc Tryd.prog w base spare held m 3 (([c0, c1, c2, c3, c4].drop 0).take (Tryd.prog.cellsOf 3)) = some y0 := hf 0 _ rfl
  rw [cells_int] at t0
  have t1 : DataW.trod enc Tryd.prog w base spare held m 2 (([c0, c1, c2, c3, c4].drop 1).take (Tryd.prog.cellsOf 2)) = some y1 := hf 1 _ rfl
  rw [cells_int64] at t1
  have t2 : DataW.trod enc Tryd.prog w base spare held m 9 (([c0, c1, c2, c3, c4].drop 2).take (Tryd.prog.cellsOf 9)) = some y2 := hf 2 _ rfl
  rw [cells_string] at t2
  have t3 : DataW.trod enc Tryd.prog w base spare held m 25 (([c0, c1, c2, c3, c4].drop 3).take (Tryd.prog.cellsOf 25)) = some y3 := hf 3 _ rfl
  rw [cells_vals] at t3
  have t4 : DataW.trod enc Tryd.prog w base spare held m 22 (([c0, c1, c2, c3, c4].drop 4).take (Tryd.prog.cellsOf 22)) = some y4 := hf 4 _ rfl
  rw [cells_fields] at t4
  simp only [DataW.weights, Tryd.underlying27, List.map_cons, List.map_nil, DataW.weightsEach, List.append_nil, List.mem_append] at hw
  obtain ⟨k, hk, rfl, wk⟩ := DataW.trod_int Tryd.underlying3 t0
  obtain ⟨n, hn, rfl, wn⟩ := DataW.trod_int Tryd.underlying2 t1
  obtain ⟨s, hs, rfl, _⟩ := DataW.trod_string Tryd.underlying9 t2
  have hk : c0 = .int .i64 k := by simpa using hk
  subst hk
  have hn : c1 = .int .i64 n := by simpa using hn
  subst hn
  have hs : c2 = .string s := by simpa using hs
  subst hs
  have hsz := hw s.data.toList.length (.inr (.inr (.inl (by simp [DataW.weights]))))
  obtain ⟨l, hl, hlw⟩ := rdL_of (fun q hq cs x => ih q (by omega) cs x) t3 (fun k hk => hw k (.inr (.inr (.inr (.inl hk)))))
  obtain ⟨fn, fv, hF, hFw⟩ := rdF_of (fun q hq cs x => ih q (by omega) cs x) t4 (fun k hk => hw k (.inr (.inr (.inr (.inr hk)))))
  obtain ⟨la, lc, lcs, rfl, hlc, hlm, hlr, hle⟩ := hl
  obtain ⟨hfl, hfs, fa, fc, fcs, rfl, hfc, hfm, hfr, hfe⟩ := hF
  refine ⟨.mk k n s l fn fv, .mk lcs fcs ?_ ?_ ?_ hfs hfl hlc hlm hfc hfm hlr hle hfr hfe, ?_⟩
  · have := bounds_i64 wk; omega
  · have := bounds_i64 wn; omega
  · unfold reachBytes at hsz
    simp at hsz
    omega
  · simp only [PVal.mass, Rows.uptoBulk, Rows.uptoBulkAll, List.map_cons, List.map_nil]
    simp
    omega

set_option maxRecDepth 100000 in
/-- An argument that is a value. -/
theorem open_val {r : Reach} {b0 : Nat} {v : Value} {d : DataW H} {p : List MemPlace} (hv : Value.okWide Tryd.prog w r b0 27 v) (h : DataW.Trod enc Tryd.prog w base spare held 27 v d p) (hw : ∀ k ∈ DataW.weights Tryd.prog 27 d, k ≤ reachBytes) :
    ∃ (cs : List Value) (V : PVal), v = .agg cs.toArray ∧ Rd w (Now w) V cs ∧ V.mass ≤ 32 * Rows.uptoBulk d := by
  obtain ⟨cs, rfl, hsz⟩ := okWide_struct Tryd.underlying27 hv
  obtain ⟨fuel, hf⟩ := h
  obtain ⟨V, hV, hm⟩ := rd_of fuel _ _ hf hw
  exact ⟨cs.toList, V, by simp, by simpa [Value.cells] using hV, hm⟩
theorem laid_out : laidOutB Tryd.prog = true := by kernel_rfl
end
end Go.Proofs.YtckdgmjekfpcjaaDoor
