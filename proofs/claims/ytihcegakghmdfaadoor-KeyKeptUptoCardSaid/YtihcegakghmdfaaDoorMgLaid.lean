/-
  The two tables of unicode/utf8, from the rows' list to the world ('Tabs'), and a world that holds them (for the witness).
  Arguments that are values, read from memory as data: each reads as a plain value. Condition: the form's own reach.
  Slices of characters and of bytes that came in, read. No condition beyond the row's own reach.
  A slice of bytes that came in, read as bytes; nil, or it has an address. No condition.
  A slice of values that came in, read; how much it holds. No condition beyond the row's own reach.
  Plain: the order of good values: the other way round, over a third one, 0 just of the same.
  Plain: the reference's order of values is the order of values, for values by their form.
-/
import Derived.Test.YtihcegakghmdfaaDoorCards
import Derived.Test.YtihcegakghmdfaaDoorTie
import Derived.Test.YtihcegakghmdfaaDoorMgOrd0
import Derived.Lib.LaidIn
import Derived.Lib.LaidU8T
import Derived.Deep.DeepHandedRow
import Derived.Deep.DeepWitnessRowRef
import Derived.ProofKit
import Derived.OpenShut
import Derived.ShutString
import Derived.Test.YtihcegakghmdfaaDoorMgPlain
import Derived.SizedLaws
import Derived.ChangeArms
import Derived.DataReads
import Derived.Carry
import Derived.ChangeSlices
import Derived.Test.YtihcegakghmdfaaDoorMgBuf
import Derived.Test.YtihcegakghmdfaaDoorMgVal10
namespace Go.Proofs.YtihcegakghmdfaaDoor
open Go.Shelf Go.ChangeShapes Go.WideShapes Go.ChangeAt Go.RowKit Go.Lib

theorem own : ownKnob Tryd.prog.godebug = none := by kernel_rfl
theorem tabs_of {W : World} (h : laidMetH Tryd.prog [("unicode/utf8.acceptRanges", Rows.laid_unicode_utf8_acceptRanges), ("unicode/utf8.first", Rows.laid_unicode_utf8_first)] W) : Tabs W := by
  have hL : laidMet Tryd.prog [("unicode/utf8.acceptRanges", acceptData), ("unicode/utf8.first", firstData)] W := by
    have e : [("unicode/utf8.acceptRanges", (Rows.laid_unicode_utf8_acceptRanges : DataW Unit)), ("unicode/utf8.first", Rows.laid_unicode_utf8_first)] = [("unicode/utf8.acceptRanges", acceptData), ("unicode/utf8.first", firstData)] := by kernel_rfl
    rw [← e]; exact h
  exact utf8Tabs_of_readsT (U8Types.of196 Tryd.lays196) ⟨by kernel_rfl, by kernel_rfl, by kernel_rfl, by kernel_rfl, by kernel_rfl, by kernel_rfl, by kernel_rfl⟩ (Lib.laidMet.reads hL (.tail _ (.head _))) (Lib.laidMet.reads hL (.head _))

/-- The settled world, the two variables holding what their initialisers lay. -/
noncomputable def laidWorld (os : Os) : World :=
  let w0 := World.holding Tryd.prog os ⟨#[], #[], []⟩
  let put (h : Array Obj) (g : Nat) (cs : Array Value) : Array Obj := h.modify g fun
    | .cells _ t frozen => .cells cs t frozen
    | o => o
  let h1 := put w0.heap 0 (Lib.firstTab.map fun z => Value.int .u8 z).toArray
  let h2 := put h1 1 ((List.range 16).flatMap fun i => [Value.int .u8 (Lib.accLo i), Value.int .u8 (Lib.accHi i)]).toArray
  { w0 with heap := h2 }
theorem laid_met (os : Os) (args : Array Value) : laidMet Tryd.prog [("unicode/utf8.acceptRanges", Rows.laid_unicode_utf8_acceptRanges), ("unicode/utf8.first", Rows.laid_unicode_utf8_first)] ((laidWorld os).forCall (fun _ _ => 0) ⟨#[], args, []⟩).memory :=
  (LaidIn.of_run (l := [("unicode/utf8.acceptRanges", Rows.laid_unicode_utf8_acceptRanges), ("unicode/utf8.first", Rows.laid_unicode_utf8_first)]) [0, 1] 8 (by kernel_rfl) (by kernel_rfl) (by kernel_rfl) (by kernel_rfl)).met
end Go.Proofs.YtihcegakghmdfaaDoor

namespace Go.Proofs.YtihcegakghmdfaaDoor
open Go.RowKit Go.Proofs Go.WideShapes

theorem list_of {α : Type} {M : Nat → α → Prop} : ∀ (n : Nat), (∀ i, i < n → ∃ V, M i V) → ∃ l : List α, l.length = n ∧ ∀ (i : Nat) (x : α), l[i]? = some x → M i x
  | 0, _ => ⟨[], rfl, fun i x h => by simp at h⟩
  | n + 1, h => by
    obtain ⟨l, hl, hm⟩ := list_of n (fun i hi => h i (by omega))
    obtain ⟨V, hV⟩ := h n (by omega)
    refine ⟨l ++ [V], by simp [hl], fun i x hx => ?_⟩
    rcases Nat.lt_trichotomy i l.length with hlt | heq | hgt
    · rw [List.getElem?_append_left hlt] at hx; exact hm i x hx
    · subst heq; simp at hx; subst hx; rw [hl]; exact hV
    · rw [List.getElem?_eq_none (by simp; omega)] at hx; cases hx
theorem len2 {α : Type} {l : List α} (h : l.length = 2) : ∃ a b, l = [a, b] := by
  match l, h with
  | [a, b], _ => exact ⟨a, b, rfl⟩
theorem len5 {α : Type} {l : List α} (h : l.length = 5) : ∃ a b c d e, l = [a, b, c, d, e] := by
  match l, h with
  | [a, b, c, d, e], _ => exact ⟨a, b, c, d, e, rfl⟩
theorem len6 {α : Type} {l : List α} (h : l.length = 6) : ∃ a b c d e f, l = [a, b, c, d, e, f] := by
  match l, h with
  | [a, b, c, d, e, f], _ => exact ⟨a, b, c, d, e, f, rfl⟩
theorem addr_add (b off n : Nat) : (⟨b, off, none⟩ : Addr).add n = ⟨b, off + n, none⟩ := by
  unfold Addr.add
  split
  · congr 1; omega
  · rfl
theorem cell_spot {w : World} {a : Addr} {v : Value} (h : w.cell? a = some v) : a.spot = none := by
  unfold World.cell? at h
  split at h
  · split at h
    · cases h
    · rename_i hs; simpa using hs
  · cases h
/-- The rows of a slice that is read as data. -/
theorem row_of {w : World} {base len sz : Nat} {a : Addr} (hsz : 0 < sz) (h : ∀ i, i < len → ∃ cs, w.cells? base (a.add (i * sz)) sz = some cs) :
    RowAt w (Now w) (some a) len sz (fun i => (w.cells? base (a.add (i * sz)) sz).getD []) := by
  by_cases hl : len = 0
  · exact .inl hl
  · right
    obtain ⟨cs, hc⟩ := h 0 (by omega)
    obtain ⟨_, hcl, hat⟩ := World.cells?_some hc
    have h0 := hat 0 hsz
    rw [List.getElem?_eq_getElem (by omega), Nat.zero_mul] at h0
    have ha : (a.add 0).add 0 = a := by simp [Addr.add]
    rw [ha] at h0
    have hsp := cell_spot h0
    have hblk := World.block_lt_of_cell? w a h0
    obtain ⟨b, off, sp⟩ := a
    subst hsp
    refine ⟨b, off, rfl, hblk, fun i hi j v hv => ?_⟩
    obtain ⟨ci, hci⟩ := h i hi
    simp only [hci, Option.getD_some] at hv
    obtain ⟨_, hcl', hat'⟩ := World.cells?_some hci
    have hj : j < sz := by rw [← hcl']; exact (List.getElem?_eq_some_iff.1 hv).1
    have := hat' j hj
    rw [addr_add, addr_add, hv] at this
    exact this

section
variable {H : Type} {enc : TypeId × Value → H} {w : World} {base : Nat} {spare : Nat → Bool} {held : Bool}
theorem all_le {l : List Nat} (h : l.all (· ≤ reachBytes) = true) : ∀ n ∈ l, n ≤ reachBytes := fun n hn => by simpa using List.all_eq_true.1 h n hn
theorem weights_mem_all {P : Program} {e : TypeId} : ∀ {ds : List (DataW H)} {i : Nat} {d : DataW H}, ds[i]? = some d → ∀ n ∈ d.weights P e, n ∈ DataW.weightsAll P e ds
  | [], _, _, h, _, _ => by simp at h
  | x :: r, 0, d, h, n, hn => by
    simp at h; subst h
    simp only [DataW.weightsAll, List.mem_append]; exact .inl hn
  | x :: r, i + 1, d, h, n, hn => by
    simp only [DataW.weightsAll, List.mem_append]
    exact .inr (weights_mem_all (by simpa using h) n hn)

theorem cells_val : Tryd.prog.cellsOf 25 = 5 := by kernel_rfl
theorem cells_field : Tryd.prog.cellsOf 50 = 6 := by kernel_rfl
theorem cells_int : Tryd.prog.cellsOf 3 = 1 := by kernel_rfl
theorem cells_int64 : Tryd.prog.cellsOf 2 = 1 := by kernel_rfl
theorem cells_string : Tryd.prog.cellsOf 9 = 1 := by kernel_rfl
theorem cells_vals : Tryd.prog.cellsOf 22 = 1 := by kernel_rfl
theorem cells_fields : Tryd.prog.cellsOf 23 = 1 := by kernel_rfl
theorem bytes_val : Tryd.prog.bytesOf 25 = 80 := by kernel_rfl
theorem bytes_field : Tryd.prog.bytesOf 50 = 96 := by kernel_rfl

theorem massL_le : ∀ (l : List PVal) (es : List (DataW H × List MemPlace)), l.length ≤ es.length → (∀ (i : Nat) (x : PVal), l[i]? = some x → ∀ y, es[i]? = some y → x.mass ≤ 32 * Rows.uptoBulk y.1) → massL l ≤ 32 * Rows.uptoBulkAll (es.map (·.1))
  | [], _, _, _ => by simp [massL]
  | x :: r, [], h, _ => by simp at h
  | x :: r, e :: es, h, hm => by
    have h1 := hm 0 x rfl e rfl
    have h2 := massL_le r es (by simpa using h) (fun i x hx y hy => hm (i + 1) x (by simpa using hx) y (by simpa using hy))
    simp only [massL, List.map_cons, Rows.uptoBulkAll]
    omega
theorem massF_le : ∀ (l : List (ByteArray × PVal)) (es : List (DataW H × List MemPlace)), l.length ≤ es.length → (∀ (i : Nat) (x : ByteArray × PVal), l[i]? = some x → ∀ y, es[i]? = some y → 32 + x.1.size + x.2.mass ≤ 32 * Rows.uptoBulk y.1) →
    massF (l.map (·.1)) + massL (l.map (·.2)) ≤ 32 * Rows.uptoBulkAll (es.map (·.1))
  | [], _, _, _ => by simp [massL, massF]
  | x :: r, [], h, _ => by simp at h
  | x :: r, e :: es, h, hm => by
    have h1 := hm 0 x rfl e rfl
    have h2 := massF_le r es (by simpa using h) (fun i x hx y hy => hm (i + 1) x (by simpa using hx) y (by simpa using hy))
    simp only [massL, massF, List.map_cons, Rows.uptoBulkAll]
    omega
/-- A slice of values, its elements read already. -/
theorem rdL_of {n : Nat} {c : Value} {y : DataW H × List MemPlace} (ih : ∀ m, m < n → ∀ (cs : List Value) (x : DataW H × List MemPlace), DataW.trod enc Tryd.prog w base spare held m 25 cs = some x → (∀ k ∈ DataW.weights Tryd.prog 25 x.1, k ≤ reachBytes) → ∃ V, Rd w (Now w) V cs ∧ V.mass ≤ 32 * Rows.uptoBulk x.1)
    (h : DataW.trod enc Tryd.prog w base spare held n 22 [c] = some y) (hw : ∀ k ∈ DataW.weights Tryd.prog 22 y.1, k ≤ reachBytes) : ∃ l, RdL w (Now w) l c ∧ massL l ≤ 32 * Rows.uptoBulk y.1 := by
  rcases DataW.trod_slice Tryd.underlying22 h with ⟨hc, _⟩ | ⟨a, len, cap, elems, rest, m, rfl, hc, rfl, hb, hlc, hcm, helen, hel, _, _⟩
  · have hc : c = .slice none 0 0 := by simpa using hc
    subst hc
    exact ⟨[], ⟨none, 0, fun _ => [], rfl, Nat.le_refl _, by simp, .inl rfl, fun i x hx => by simp at hx⟩, by simp [massL]⟩
  · have hc : c = .slice (some a) len cap := by simpa using hc
    subst hc
    simp only [DataW.weights, Tryd.underlying22, bytes_val, List.mem_cons, List.mem_append] at hw
    have hbd := hw _ (.inl rfl)
    simp only [List.length_map, helen] at hbd
    rw [cells_val] at hel
    have hsome : ∀ i, i < len → ∃ cs x, w.cells? base (a.add (i * 5)) 5 = some cs ∧ elems[i]? = some x ∧ DataW.trod enc Tryd.prog w base spare held m 25 cs = some x := by
      intro i hi
      have h1 := hel i hi
      rw [List.getElem?_eq_getElem (by omega)] at h1
      obtain ⟨cs, hcs, hx⟩ := Option.bind_eq_some_iff.1 h1
      exact ⟨cs, _, hcs, List.getElem?_eq_getElem (by omega), hx⟩
    obtain ⟨l, hll, hlr⟩ := list_of (M := fun i V => Rd w (Now w) V ((w.cells? base (a.add (i * 5)) 5).getD []) ∧ ∀ y, elems[i]? = some y → V.mass ≤ 32 * Rows.uptoBulk y.1) len (fun i hi => by
      obtain ⟨cs, x, hcs, hx, ht⟩ := hsome i hi
      obtain ⟨V, hV, hVm⟩ := ih m (by omega) cs x ht (fun k hk => hw k (.inr (.inl (weights_mem_all (i := i) (by simp [hx]) k hk))))
      exact ⟨V, by rw [hcs]; exact hV, fun y hy => by rw [hx] at hy; obtain rfl := Option.some.inj hy; exact hVm⟩)
    subst hll
    refine ⟨l, ⟨some a, cap, _, rfl, hlc, ⟨by unfold maxLen at hcm; omega, ?_⟩, row_of (by decide) (fun i hi => ?_), fun i x hx => (hlr i x hx).1⟩, ?_⟩
    · unfold reachBytes at hbd; omega
    · obtain ⟨cs, x, hcs, _⟩ := hsome i hi
      exact ⟨cs, hcs⟩
    · have := massL_le l elems (by omega) (fun i x hx => (hlr i x hx).2)
      simp only [Rows.uptoBulk]
      omega

set_option maxRecDepth 100000 in
/-- A slice of fields. -/
theorem rdF_of {n : Nat} {c : Value} {y : DataW H × List MemPlace} (ih : ∀ m, m < n → ∀ (cs : List Value) (x : DataW H × List MemPlace), DataW.trod enc Tryd.prog w base spare held m 25 cs = some x → (∀ k ∈ DataW.weights Tryd.prog 25 x.1, k ≤ reachBytes) → ∃ V, Rd w (Now w) V cs ∧ V.mass ≤ 32 * Rows.uptoBulk x.1)
    (h : DataW.trod enc Tryd.prog w base spare held n 23 [c] = some y) (hw : ∀ k ∈ DataW.weights Tryd.prog 23 y.1, k ≤ reachBytes) : ∃ fn fv, RdF w (Now w) fn fv c ∧ massF fn + massL fv ≤ 32 * Rows.uptoBulk y.1 := by
  rcases DataW.trod_slice Tryd.underlying23 h with ⟨hc, _⟩ | ⟨a, len, cap, elems, rest, m, rfl, hc, rfl, hb, hlc, hcm, helen, hel, _, _⟩
  · have hc : c = .slice none 0 0 := by simpa using hc
    subst hc
    exact ⟨[], [], ⟨rfl, (fun x hx => by cases hx), none, 0, fun _ => [], rfl, Nat.le_refl _, by simp, .inl rfl, fun i x hx => by simp at hx⟩, by simp [massL, massF]⟩
  · have hc : c = .slice (some a) len cap := by simpa using hc
    subst hc
    simp only [DataW.weights, Tryd.underlying23, bytes_field, List.mem_cons, List.mem_append] at hw
    have hbd := hw _ (.inl rfl)
    simp only [List.length_map, helen] at hbd
    rw [cells_field] at hel
    have hsome : ∀ i, i < len → ∃ cs x, w.cells? base (a.add (i * 6)) 6 = some cs ∧ elems[i]? = some x ∧ DataW.trod enc Tryd.prog w base spare held m 50 cs = some x := by
      intro i hi
      have h1 := hel i hi
      rw [List.getElem?_eq_getElem (by omega)] at h1
      obtain ⟨cs, hcs, hx⟩ := Option.bind_eq_some_iff.1 h1
      exact ⟨cs, _, hcs, List.getElem?_eq_getElem (by omega), hx⟩
    obtain ⟨l, hll, hlr⟩ := list_of (M := fun i (p : ByteArray × PVal) => ((w.cells? base (a.add (i * 6)) 6).getD []) = .string p.1 :: ((w.cells? base (a.add (i * 6)) 6).getD []).drop 1 ∧ p.1.size ≤ 140737488355328 ∧ Rd w (Now w) p.2 (((w.cells? base (a.add (i * 6)) 6).getD []).drop 1) ∧ ∀ y, elems[i]? = some y → 32 + p.1.size + p.2.mass ≤ 32 * Rows.uptoBulk y.1) len (fun i hi => by
      obtain ⟨cs, x, hcs, hx, ht⟩ := hsome i hi
      obtain ⟨xs, q, rfl, rfl, hlen, hxl, hf⟩ := DataW.trod_struct Tryd.underlying50 ht
      have hwx : ∀ k ∈ DataW.weights Tryd.prog 50 (.agg (xs.map (·.1)) : DataW H), k ≤ reachBytes := fun k hk => hw k (.inr (.inl (weights_mem_all (i := i) (by simp [hx]) k hk)))
      rw [cells_field] at hlen
      obtain ⟨y0, y1, rfl⟩ := len2 hxl
      obtain ⟨c0, c1, c2, c3, c4, c5, rfl⟩ := len6 hlen
      have t0 : DataW.trod enc Tryd.prog w base spare held q 9 (([c0, c1, c2, c3, c4, c5].drop 0).take (Tryd.prog.cellsOf 9)) = some y0 := hf 0 _ rfl
      rw [cells_string] at t0
      have t1 : DataW.trod enc Tryd.prog w base spare held q 25 (([c0, c1, c2, c3, c4, c5].drop 1).take (Tryd.prog.cellsOf 25)) = some y1 := hf 1 _ rfl
      rw [cells_val] at t1
      simp only [DataW.weights, Tryd.underlying50, List.map_cons, List.map_nil, DataW.weightsEach, List.append_nil, List.mem_append] at hwx
      obtain ⟨s, hs, rfl, _⟩ := DataW.trod_string Tryd.underlying9 t0
      have hs : c0 = .string s := by simpa using hs
      subst hs
      obtain ⟨V, hV, hVm⟩ := ih q (by omega) _ _ t1 (fun k hk => hwx k (.inr hk))
      have hsz := hwx s.data.toList.length (.inl (by simp [DataW.weights]))
      refine ⟨(s, V), by rw [hcs]; rfl, ?_, by rw [hcs]; exact hV, fun y hy => ?_⟩
      rotate_left
      · rw [hx] at hy
        obtain rfl := Option.some.inj hy
        simp only [Rows.uptoBulk, Rows.uptoBulkAll, List.map_cons, List.map_nil]
        simp
        omega
      unfold reachBytes at hsz
      simp at hsz
      show s.size ≤ _
      omega)
    subst hll
    refine ⟨l.map (·.1), l.map (·.2), ⟨by simp, fun x hx => ?_, some a, cap, fun i => ((w.cells? base (a.add (i * 6)) 6).getD []).drop 1, by simp, by simpa using hlc, ⟨by unfold maxLen at hcm; omega, ?_⟩, ?_, fun i x hx => ?_⟩, ?_⟩
    · obtain ⟨p, hp, rfl⟩ := List.mem_map.1 hx
      obtain ⟨i, hi⟩ := List.getElem?_of_mem hp
      exact (hlr i p hi).2.1
    · simp only [List.length_map]; unfold reachBytes at hbd; omega
    · have hr := row_of (w := w) (base := base) (a := a) (len := l.length) (sz := 6) (by decide) (fun i hi => by obtain ⟨cs, x, hcs, _⟩ := hsome i hi; exact ⟨cs, hcs⟩)
      rw [List.length_map]
      rcases hr with hr | ⟨b, off, ha, hS, hc⟩
      · exact .inl hr
      · refine .inr ⟨b, off, ha, hS, fun i hi j v hv => hc i hi j v ?_⟩
        have hli : l[i]? = some l[i] := List.getElem?_eq_getElem hi
        have hgd : (l.map (·.1)).getD i ByteArray.empty = (l[i]).1 := by simp [List.getD, hli]
        show ((w.cells? base (a.add (i * 6)) 6).getD [])[j]? = some v
        rw [(hlr i _ hli).1, ← hgd]
        exact hv
    · rw [List.getElem?_map] at hx
      obtain ⟨p, hp, rfl⟩ := Option.map_eq_some_iff.1 hx
      exact (hlr i p hp).2.2.1
    · have := massF_le l elems (by omega) (fun i x hx => (hlr i x hx).2.2.2)
      simp only [Rows.uptoBulk]
      omega

set_option maxRecDepth 100000 in
theorem rd_of : ∀ (n : Nat) (cs : List Value) (x : DataW H × List MemPlace), DataW.trod enc Tryd.prog w base spare held n 25 cs = some x → (∀ k ∈ DataW.weights Tryd.prog 25 x.1, k ≤ reachBytes) → ∃ V, Rd w (Now w) V cs ∧ V.mass ≤ 32 * Rows.uptoBulk x.1 := by
  intro n
  induction n using Nat.strongRecOn with
  | _ n ih =>
  intro cs x h hw
  obtain ⟨xs, m, rfl, rfl, hlen, hxl, hf⟩ := DataW.trod_struct Tryd.underlying25 h
  rw [cells_val] at hlen
  obtain ⟨y0, y1, y2, y3, y4, rfl⟩ := len5 hxl
  obtain ⟨c0, c1, c2, c3, c4, rfl⟩ := len5 hlen
  have t0 : DataW.trod enc Tryd.prog w base spare held m 3 (([c0, c1, c2, c3, c4].drop 0).take (Tryd.prog.cellsOf 3)) = some y0 := hf 0 _ rfl
  rw [cells_int] at t0
  have t1 : DataW.trod enc Tryd.prog w base spare held m 2 (([c0, c1, c2, c3, c4].drop 1).take (Tryd.prog.cellsOf 2)) = some y1 := hf 1 _ rfl
  rw [cells_int64] at t1
  have t2 : DataW.trod enc Tryd.prog w base spare held m 9 (([c0, c1, c2, c3, c4].drop 2).take (Tryd.prog.cellsOf 9)) = some y2 := hf 2 _ rfl
  rw [cells_string] at t2
  have t3 : DataW.trod enc Tryd.prog w base spare held m 22 (([c0, c1, c2, c3, c4].drop 3).take (Tryd.prog.cellsOf 22)) = some y3 := hf 3 _ rfl
  rw [cells_vals] at t3
  have t4 : DataW.trod enc Tryd.prog w base spare held m 23 (([c0, c1, c2, c3, c4].drop 4).take (Tryd.prog.cellsOf 23)) = some y4 := hf 4 _ rfl
  rw [cells_fields] at t4
  simp only [DataW.weights, Tryd.underlying25, List.map_cons, List.map_nil, DataW.weightsEach, List.append_nil, List.mem_append] at hw
  obtain ⟨k, hk, rfl, wk⟩ := DataW.trod_int Tryd.underlying3 t0
  obtain ⟨n, hn, rfl, wn⟩ := DataW.trod_int Tryd.underlying2 t1
  obtain ⟨s, hs, rfl, _⟩ := DataW.trod_string Tryd.underlying9 t2
  have hk : c0 = .int .i64 k := by simpa using hk
  subst hk
  have hn : c1 = .int .i64 n := by simpa using hn
  subst hn
  have hs : c2 = .string s := by simpa using hs
  subst hs
  have hsz := hw s.data.toList.length (.inr (.inr (.inl (by simp [DataW.weights]))))
  obtain ⟨l, hl, hlw⟩ := rdL_of (fun q hq cs x => ih q (by omega) cs x) t3 (fun k hk => hw k (.inr (.inr (.inr (.inl hk)))))
  obtain ⟨fn, fv, hF, hFw⟩ := rdF_of (fun q hq cs x => ih q (by omega) cs x) t4 (fun k hk => hw k (.inr (.inr (.inr (.inr hk)))))
  obtain ⟨la, lc, lcs, rfl, hlc, hlm, hlr, hle⟩ := hl
  obtain ⟨hfl, hfs, fa, fc, fcs, rfl, hfc, hfm, hfr, hfe⟩ := hF
  refine ⟨.mk k n s l fn fv, .mk lcs fcs ?_ ?_ ?_ hfs hfl hlc hlm hfc hfm hlr hle hfr hfe, ?_⟩
  · have := bounds_i64 wk; omega
  · have := bounds_i64 wn; omega
  · unfold reachBytes at hsz
    simp at hsz
    omega
  · simp only [PVal.mass, Rows.uptoBulk, Rows.uptoBulkAll, List.map_cons, List.map_nil]
    simp
    omega

set_option maxRecDepth 100000 in
/-- An argument that is a value. -/
theorem open_val {r : Reach} {b0 : Nat} {v : Value} {d : DataW H} {p : List MemPlace} (hv : Value.okWide Tryd.prog w r b0 25 v) (h : DataW.Trod enc Tryd.prog w base spare held 25 v d p) (hw : ∀ k ∈ DataW.weights Tryd.prog 25 d, k ≤ reachBytes) :
    ∃ (cs : List Value) (V : PVal), v = .agg cs.toArray ∧ Rd w (Now w) V cs ∧ V.mass ≤ 32 * Rows.uptoBulk d := by
  obtain ⟨cs, rfl, hsz⟩ := okWide_struct Tryd.underlying25 hv
  obtain ⟨fuel, hf⟩ := h
  obtain ⟨V, hV, hm⟩ := rd_of fuel _ _ hf hw
  exact ⟨cs.toList, V, by simp, by simpa [Value.cells] using hV, hm⟩
theorem laid_out : laidOutB Tryd.prog = true := by kernel_rfl
end
end Go.Proofs.YtihcegakghmdfaaDoor

namespace Go.Proofs.YtihcegakghmdfaaDoor
open Go.RowKit Go.Proofs Go.Lib Go.ChangeShapes Go.WideShapes

/-- Numbers of one kind that lie in memory. -/
def NumsAt (k : IntKind) (w : World) (rs : List Int) (v : Value) : Prop :=
  ∃ a cap, v = .slice a rs.length cap ∧ rs.length ≤ cap ∧ cap ≤ 9223372036854775807 ∧ (∀ x ∈ rs, (Lit.int k x).wf = true) ∧
    (rs = [] ∨ ∃ b off, a = some ⟨b, off, none⟩ ∧ b < w.heap.size ∧ ∀ (j : Nat) (x : Int), rs[j]? = some x → w.cell? ⟨b, off + j, none⟩ = some (.int k x))
theorem bulk_lits {H : Type} (k : IntKind) (l : List Int) : l.length ≤ Rows.uptoBulkAll ((lits k l : List (DataW H))) := by
  induction l with
  | nil => simp
  | cons x r ih =>
    simp only [lits, List.map_cons, Rows.uptoBulkAll, List.length_cons, Rows.uptoBulk] at ih ⊢
    omega
section
variable {H : Type} {enc : TypeId × Value → H} {w : World} {base : Nat} {spare held : _}
set_option maxRecDepth 100000 in
theorem open_nums {t e : TypeId} {k : IntKind} {sz : Nat} {v : Value} {d : DataW H} {p : List MemPlace} {r : Reach} {b0 : Nat} (ht : Tryd.prog.underlying t = some (.slice e)) (he : Tryd.prog.underlying e = some (.int k)) (hc : Tryd.prog.cellsOf e = 1) (hb : Tryd.prog.bytesOf e = sz)
    (hv : Value.okWide Tryd.prog w r b0 t v) (h : DataW.Trod enc Tryd.prog w base spare held t v d p) (hw : ∀ k ∈ DataW.weights Tryd.prog t d, k ≤ reachBytes) :
    ∃ rs, NumsAt k w rs v ∧ rs.length * sz ≤ reachBytes ∧ rs.length ≤ Rows.uptoBulk d := by
  obtain ⟨a, n, c, rfl⟩ : ∃ a n c, v = .slice a n c := okWide_slice ht hv
  obtain ⟨fuel, hf⟩ := h
  rcases open_ints ht he hc hf with ⟨h1, h2⟩ | ⟨a', len, cap, zs, h1, _, hlc, hcm, hzl, h2, hcell, hwf⟩
  · have h1 : Value.slice a n c = .slice none 0 0 := by simpa [Value.cells] using h1
    rw [h1]
    exact ⟨[], ⟨none, 0, rfl, Nat.le_refl _, by simp, by simp, .inl rfl⟩, by simp, by simp⟩
  · have h1 : Value.slice a n c = .slice (some a') len cap := by simpa [Value.cells] using h1
    have hd : d = .slice (lits k (zs.take len)) (lits k (zs.drop len)) := congrArg Prod.fst h2
    rw [h1]
    subst hd
    have hlen : len ≤ zs.length := by rw [hzl]; split <;> omega
    have htl : (zs.take len).length = len := by rw [List.length_take]; omega
    refine ⟨zs.take len, ⟨some a', cap, by rw [htl], by rw [htl]; exact hlc, by unfold maxLen at hcm; omega, fun x hx => hwf x (List.mem_of_mem_take hx), ?_⟩, ?_, ?_⟩
    · by_cases h0 : len = 0
      · left; subst h0; rfl
      · right
        have hc0 := hcell 0 (by omega)
        have hsp := cell_spot (w := w) (a := a') (by have : a'.add 0 = a' := by (cases a'; unfold Addr.add; split <;> simp_all)
                                                     rw [this] at hc0; exact hc0)
        obtain ⟨b, off, sp⟩ := a'
        simp only at hsp
        subst hsp
        refine ⟨b, off, rfl, ?_, fun j x hx => ?_⟩
        · rw [addr_add] at hc0
          exact World.block_lt_of_cell? w _ hc0
        · have hj : j < len := by rw [← htl]; exact (List.getElem?_eq_some_iff.1 hx).1
          have := hcell j (by omega)
          rw [addr_add] at this
          rw [this]
          rw [List.getElem?_take, if_pos hj] at hx
          simp [List.getD, hx]
    · simp only [DataW.weights, ht, hb, List.mem_cons, List.mem_append] at hw
      have := hw _ (.inl rfl)
      simp only [lits, List.length_map, htl] at this
      rw [htl]
      exact Nat.le_trans (Nat.mul_le_mul_right _ (Nat.le_add_right _ _)) this
    · rw [htl]
      have := bulk_lits (H := H) k (zs.take len)
      rw [htl] at this
      simp only [Rows.uptoBulk]
      omega
set_option maxRecDepth 100000 in
theorem open_bytes {v : Value} {d : DataW H} {p : List MemPlace} {r : Reach} {b0 : Nat} (hv : Value.okWide Tryd.prog w r b0 26 v) (h : DataW.Trod enc Tryd.prog w base spare held 26 v d p) (hw : ∀ k ∈ DataW.weights Tryd.prog 26 d, k ≤ reachBytes) :
    ∃ bs, NumsAt .u8 w bs v ∧ bs.length ≤ 140737488351232 ∧ bs.length ≤ Rows.uptoBulk d := by
  obtain ⟨rs, h1, hl, hb⟩ := open_nums (sz := 1) Tryd.underlying26 Tryd.underlying5 (by kernel_rfl) (by kernel_rfl) hv h hw
  exact ⟨rs, h1, by unfold reachBytes at hl; omega, hb⟩
end
end Go.Proofs.YtihcegakghmdfaaDoor

namespace Go.Proofs.YtihcegakghmdfaaDoor
open Go.RowKit Go.Proofs

theorem bytes_of_nums {w : World} {rs : List Int} {v : Value} (h : NumsAt .u8 w rs v) : ∃ l : List UInt8, BytesAt w (Now w) l v ∧ l.length = rs.length := by
  obtain ⟨a, cap, rfl, h1, h2, h3, h4⟩ := h
  have hlen : (rs.map fun x => UInt8.ofNat x.toNat).length = rs.length := List.length_map _
  refine ⟨rs.map fun x => UInt8.ofNat x.toNat, ⟨a, cap, by rw [hlen], by rw [hlen]; exact h1, h2, ?_⟩, hlen⟩
  rcases h4 with rfl | ⟨b, off, rfl, hb, hc⟩
  · exact .inl rfl
  · refine .inr ⟨b, off, rfl, hb, fun j c hj => ?_⟩
    rw [List.getElem?_map] at hj
    obtain ⟨x, hx, rfl⟩ := Option.map_eq_some_iff.1 hj
    rw [hc j x hx]
    have := h3 x (List.mem_of_getElem? hx)
    simp only [Lit.wf, Bool.and_eq_true, decide_eq_true_eq] at this
    have h5 : (0 : Int) ≤ x ∧ x ≤ 255 := this
    rw [UInt8.toNat_ofNat']
    congr 2
    omega
section
variable {H : Type} {enc : TypeId × Value → H} {w : World} {base : Nat} {spare held : _}
open Go.ChangeShapes Go.WideShapes in
set_option maxRecDepth 100000 in
/-- A slice of bytes that came in: nil, or it has an address. -/
theorem bytes_form {v : Value} {d : DataW H} {p : List MemPlace} {r : Reach} {b0 : Nat} (hv : Value.okWide Tryd.prog w r b0 26 v) (h : DataW.Trod enc Tryd.prog w base spare held 26 v d p) : v = .slice none 0 0 ∨ ∃ ad n c, v = .slice (some ad) n c := by
  obtain ⟨a, n, c, rfl⟩ : ∃ a n c, v = .slice a n c := okWide_slice Tryd.underlying26 hv
  obtain ⟨fuel, hf⟩ := h
  rcases open_ints Tryd.underlying26 Tryd.underlying5 (by kernel_rfl) hf with ⟨h1, _⟩ | ⟨a', len, cap, zs, h1, _⟩
  · exact .inl (by simpa [Value.cells] using h1)
  · exact .inr ⟨a', len, cap, by simpa [Value.cells] using h1⟩
end
theorem form_cap {bv : Value} (h : bv = .slice none 0 0 ∨ ∃ ad n c, bv = .slice (some ad) n c) : ∀ n c, bv = .slice none n c → c = 0 := by
  rintro n c rfl
  rcases h with h | ⟨_, _, _, h⟩
  · injection h
  · injection h with e; cases e
end Go.Proofs.YtihcegakghmdfaaDoor

namespace Go.Proofs.YtihcegakghmdfaaDoor
open Go.RowKit Go.Proofs Go.Lib Go.ChangeShapes Go.WideShapes
section
variable {H : Type} {enc : TypeId × Value → H} {w : World} {base : Nat} {spare held : _}
set_option maxRecDepth 100000 in
/-- An argument that is a slice of values. -/
theorem open_vals {r : Reach} {b0 : Nat} {v : Value} {d : DataW H} {p : List MemPlace} (hv : Value.okWide Tryd.prog w r b0 22 v) (h : DataW.Trod enc Tryd.prog w base spare held 22 v d p) (hw : ∀ k ∈ DataW.weights Tryd.prog 22 d, k ≤ reachBytes) :
    ∃ (l : List PVal) (la : Option Addr) (c : Nat), v = .slice la l.length c ∧ RdL w (Now w) l (.slice la l.length c) ∧ massL l ≤ 32 * Rows.uptoBulk d := by
  obtain ⟨a, n, c, rfl⟩ : ∃ a n c, v = .slice a n c := okWide_slice Tryd.underlying22 hv
  obtain ⟨fuel, hf⟩ := h
  obtain ⟨l, hl, hm⟩ := rdL_of (fun m _ cs x => rd_of m cs x) hf hw
  have hl0 := hl
  obtain ⟨la, cap, cs, hv, _⟩ := hl0
  have hv : Value.slice a n c = .slice la l.length cap := by simpa [Value.cells] using hv
  rw [hv]
  refine ⟨l, la, cap, rfl, ?_, hm⟩
  rw [← hv]
  simpa [Value.cells] using hl
end
end Go.Proofs.YtihcegakghmdfaaDoor

namespace Go.Proofs.YtihcegakghmdfaaDoor
open Go.RowKit Go.Proofs

theorem icmp_anti (x y : Int) : icmp y x = - icmp x y := by unfold icmp; split <;> split <;> (try split) <;> omega
theorem icmp_zero {x y : Int} : icmp x y = 0 ↔ x = y := by unfold icmp; split <;> (try split) <;> omega
theorem icmp_trans {x y z : Int} (h : icmp x y ≤ 0) (k : icmp y z ≤ 0) : icmp x z ≤ 0 ∧ (icmp x y < 0 → icmp x z < 0) ∧ (icmp y z < 0 → icmp x z < 0) := by
  unfold icmp at *; repeat' split at *
  all_goals omega
theorem icmp_range (x y : Int) : icmp x y = -1 ∨ icmp x y = 0 ∨ icmp x y = 1 := by unfold icmp; split <;> (try split) <;> omega
theorem fit_icmp (x y z : Int) : Fit (icmp x y) (icmp y z) (icmp x z) := icmp_trans

theorem cmpV_lex (k n : Int) (s : ByteArray) (l : List PVal) (fn : List ByteArray) (fv : List PVal) (k' n' : Int) (s' : ByteArray) (l' : List PVal) (fn' : List ByteArray) (fv' : List PVal) :
    cmpV (.mk k n s l fn fv) (.mk k' n' s' l' fn' fv') = lex (icmp k k') (lex (cmpL l l') (lex (cmpF fn fv fn' fv') (lex (icmp n n') (lex (scmp s s') (lex (icmp l.length l'.length) (icmp fv.length fv'.length)))))) := by
  rw [cmpV]
  simp only [lex, orI]
  repeat' split
  all_goals first | rfl | omega
theorem cmpL_cons (x y : PVal) (r r' : List PVal) : cmpL (x :: r) (y :: r') = lex (cmpV x y) (cmpL r r') := by rw [cmpL]; rfl
theorem cmpF_cons (a b : ByteArray) (ar br : List ByteArray) (x y : PVal) (r r' : List PVal) : cmpF (a :: ar) (x :: r) (b :: br) (y :: r') = lex (lex (scmp a b) (cmpV x y)) (cmpF ar r br r') := by
  rw [cmpF]
  simp only [lex, orI]
  repeat' split
  all_goals first | rfl | omega
theorem cmpL_nil (l : List PVal) : cmpL [] l = 0 ∧ cmpL l [] = 0 := by cases l <;> simp [cmpL]
theorem cmpF_nil (fn fn' : List ByteArray) (l : List PVal) : cmpF fn [] fn' l = 0 ∧ cmpF fn l fn' [] = 0 ∧ cmpF [] l fn' l = 0 := by cases fn <;> cases fn' <;> cases l <;> simp [cmpF]

theorem cmpV_anti (V : PVal) : ∀ V', cmpV V' V = - cmpV V V' := by
  refine PVal.ind (M := fun V => ∀ V', cmpV V' V = - cmpV V V') ?_ V
  intro k n s l fn fv hl hf V'
  obtain ⟨k', n', s', l', fn', fv'⟩ := V'
  have hL : ∀ l l' : List PVal, (∀ x ∈ l, ∀ y, cmpV y x = - cmpV x y) → cmpL l' l = - cmpL l l' := by
    intro l
    induction l with
    | nil => intro l' _; rw [(cmpL_nil l').1, (cmpL_nil l').2]; rfl
    | cons x r ih =>
      intro l' h
      cases l' with
      | nil => rw [(cmpL_nil _).1, (cmpL_nil _).2]; rfl
      | cons y r' => rw [cmpL_cons, cmpL_cons, h x (by simp), ih r' (fun z hz => h z (by simp [hz])), lex_neg]
  have hF : ∀ (fv : List PVal) (fn fn' : List ByteArray) (fv' : List PVal), (∀ x ∈ fv, ∀ y, cmpV y x = - cmpV x y) → cmpF fn' fv' fn fv = - cmpF fn fv fn' fv' := by
    intro fv
    induction fv with
    | nil => intro fn fn' fv' _; rw [(cmpF_nil fn fn' fv').1, (cmpF_nil fn' fn fv').2.1]; rfl
    | cons x r ih =>
      intro fn fn' fv' h
      match fn, fn', fv' with
      | [], [], [] => simp [cmpF]
      | [], _ :: _, [] => simp [cmpF]
      | _ :: _, [], [] => simp [cmpF]
      | _ :: _, _ :: _, [] => simp [cmpF]
      | [], [], _ :: _ => simp [cmpF]
      | [], _ :: _, _ :: _ => simp [cmpF]
      | _ :: _, [], _ :: _ => simp [cmpF]
      | a :: ar, b :: br, y :: r' => rw [cmpF_cons, cmpF_cons, h x (by simp), ih ar br r' (fun z hz => h z (by simp [hz])), scmp_anti a b, lex_neg, lex_neg]
  rw [cmpV_lex, cmpV_lex, hL l l' hl, hF fv fn fn' fv' hf, icmp_anti k k', icmp_anti n n', scmp_anti s s', icmp_anti (l.length : Int) l'.length, icmp_anti (fv.length : Int) fv'.length]
  simp only [lex_neg]

theorem cmpV_same (V : PVal) : cmpV V V = 0 := by have := cmpV_anti V V; omega
theorem cmpV_zero (V : PVal) : V.fits → ∀ V', V'.fits → cmpV V V' = 0 → V = V' := by
  refine PVal.ind (M := fun V => V.fits → ∀ V', V'.fits → cmpV V V' = 0 → V = V') ?_ V
  intro k n s l fn fv hl hf hfit V' hfit' h
  obtain ⟨k', n', s', l', fn', fv'⟩ := V'
  simp only [PVal.fits, fitsL_iff] at hfit hfit'
  rw [cmpV_lex] at h
  simp only [lex_zero, icmp_zero, scmp_zero] at h
  obtain ⟨rfl, h1, h2, rfl, rfl, h3, h4⟩ := h
  have hL : ∀ l l' : List PVal, (∀ x ∈ l, x.fits → ∀ y, y.fits → cmpV x y = 0 → x = y) → (∀ x ∈ l, x.fits) → (∀ x ∈ l', x.fits) → l.length = l'.length → cmpL l l' = 0 → l = l' := by
    intro l
    induction l with
    | nil => intro l' _ _ _ e _; cases l' with
      | nil => rfl
      | cons => simp at e
    | cons x r ih =>
      intro l' h hf hf' e hc
      cases l' with
      | nil => simp at e
      | cons y r' =>
        rw [cmpL_cons, lex_zero] at hc
        rw [h x (by simp) (hf x (by simp)) y (hf' y (by simp)) hc.1, ih r' (fun z hz => h z (by simp [hz])) (fun z hz => hf z (by simp [hz])) (fun z hz => hf' z (by simp [hz])) (by simpa using e) hc.2]
  have hF : ∀ (fv : List PVal) (fn fn' : List ByteArray) (fv' : List PVal), (∀ x ∈ fv, x.fits → ∀ y, y.fits → cmpV x y = 0 → x = y) → (∀ x ∈ fv, x.fits) → (∀ x ∈ fv', x.fits) → fn.length = fv.length → fn'.length = fv'.length → fv.length = fv'.length →
      cmpF fn fv fn' fv' = 0 → fn = fn' ∧ fv = fv' := by
    intro fv
    induction fv with
    | nil =>
      intro fn fn' fv' _ _ _ e1 e2 e _
      have z1 : fv' = [] := List.eq_nil_of_length_eq_zero (by simpa using e.symm)
      subst z1
      have z2 : fn = [] := List.eq_nil_of_length_eq_zero (by simpa using e1)
      have z3 : fn' = [] := List.eq_nil_of_length_eq_zero (by simpa using e2)
      exact ⟨by rw [z2, z3], rfl⟩
    | cons x r ih =>
      intro fn fn' fv' h hf hf' e1 e2 e hc
      match fn, fn', fv', e1, e2, e, hc with
      | [], _, _, e1, _, _, _ => simp at e1
      | _ :: _, _, [], _, _, e, _ => simp at e
      | _ :: _, [], _ :: _, _, e2, _, _ => simp at e2
      | a :: ar, b :: br, y :: r', e1, e2, e, hc =>
        rw [cmpF_cons, lex_zero, lex_zero, scmp_zero] at hc
        obtain ⟨⟨rfl, h2⟩, h3⟩ := hc
        obtain ⟨i1, i2⟩ := ih ar br r' (fun z hz => h z (by simp [hz])) (fun z hz => hf z (by simp [hz])) (fun z hz => hf' z (by simp [hz])) (by simpa using e1) (by simpa using e2) (by simpa using e) h3
        rw [i1, i2, h x (by simp) (hf x (by simp)) y (hf' y (by simp)) h2]
        exact ⟨rfl, rfl⟩
  obtain ⟨i1, i2⟩ := hF fv fn fn' fv' hf hfit.2.2.2.2.2.2.2.2 hfit'.2.2.2.2.2.2.2.2 hfit.2.2.2.2.1 hfit'.2.2.2.2.1 (by omega) h2
  rw [hL l l' hl hfit.2.2.2.2.2.2.2.1 hfit'.2.2.2.2.2.2.2.1 (by omega) h1, i1, i2]

theorem icmp_succ (n m : Nat) : icmp ((n + 1 : Nat) : Int) ((m + 1 : Nat) : Int) = icmp n m := by unfold icmp; split <;> split <;> (try split) <;> (try split) <;> omega
theorem icmp_lt {x y : Int} (h : x < y) : icmp x y = -1 := by simp [icmp, h]
theorem icmp_gt {x y : Int} (h : y < x) : icmp x y = 1 := by unfold icmp; rw [if_neg (by omega), if_pos h]
theorem fit_pos {x y z : Int} (h : 0 < x ∨ 0 < y) : Fit x y z := fun _ _ => by omega
theorem fit_neg {x y z : Int} (h : z < 0) : Fit x y z := fun _ _ => by omega

theorem fit_list : ∀ (l l' l'' : List PVal), (∀ x ∈ l, ∀ y ∈ l', ∀ z ∈ l'', Fit (cmpV x y) (cmpV y z) (cmpV x z)) →
    Fit (lex (cmpL l l') (icmp l.length l'.length)) (lex (cmpL l' l'') (icmp l'.length l''.length)) (lex (cmpL l l'') (icmp l.length l''.length))
  | [], [], [], _ => by simp [cmpL, lex, icmp, Fit]
  | [], _, z :: r'', _ => fit_neg (by rw [(cmpL_nil _).1, lex_zero_left, icmp_lt (by simp)]; decide)
  | [], y :: r', [], _ => fit_pos (.inr (by rw [(cmpL_nil _).2, lex_zero_left, icmp_gt (by simp)]; decide))
  | x :: r, [], _, _ => fit_pos (.inl (by rw [(cmpL_nil _).2, lex_zero_left, icmp_gt (by simp)]; decide))
  | x :: r, y :: r', [], _ => fit_pos (.inr (by rw [(cmpL_nil _).2, lex_zero_left, icmp_gt (by simp)]; decide))
  | x :: r, y :: r', z :: r'', h => by
    rw [cmpL_cons, cmpL_cons, cmpL_cons, lex_assoc, lex_assoc, lex_assoc, List.length_cons, List.length_cons, List.length_cons, icmp_succ, icmp_succ, icmp_succ]
    exact Fit.lex (h x (by simp) y (by simp) z (by simp)) (fun _ _ => fit_list r r' r'' (fun a ha b hb c hc => h a (by simp [ha]) b (by simp [hb]) c (by simp [hc])))
theorem fit_fields : ∀ (l l' l'' : List PVal) (fn fn' fn'' : List ByteArray), fn.length = l.length → fn'.length = l'.length → fn''.length = l''.length → (∀ x ∈ l, ∀ y ∈ l', ∀ z ∈ l'', Fit (cmpV x y) (cmpV y z) (cmpV x z)) →
    Fit (lex (cmpF fn l fn' l') (icmp l.length l'.length)) (lex (cmpF fn' l' fn'' l'') (icmp l'.length l''.length)) (lex (cmpF fn l fn'' l'') (icmp l.length l''.length))
  | [], [], [], _, _, _, _, _, _, _ => by simp [cmpF_nil, lex, icmp, Fit]
  | [], _, z :: r'', _, _, _, _, _, _, _ => fit_neg (by rw [(cmpF_nil _ _ _).1, lex_zero_left, icmp_lt (by simp)]; decide)
  | [], y :: r', [], _, _, _, _, _, _, _ => fit_pos (.inr (by rw [(cmpF_nil _ _ _).2.1, lex_zero_left, icmp_gt (by simp)]; decide))
  | x :: r, [], _, _, _, _, _, _, _, _ => fit_pos (.inl (by rw [(cmpF_nil _ _ _).2.1, lex_zero_left, icmp_gt (by simp)]; decide))
  | x :: r, y :: r', [], _, _, _, _, _, _, _ => fit_pos (.inr (by rw [(cmpF_nil _ _ _).2.1, lex_zero_left, icmp_gt (by simp)]; decide))
  | x :: r, y :: r', z :: r'', [], _, _, e, _, _, _ => by simp at e
  | x :: r, y :: r', z :: r'', _ :: _, [], _, _, e, _, _ => by simp at e
  | x :: r, y :: r', z :: r'', _ :: _, _ :: _, [], _, _, e, _ => by simp at e
  | x :: r, y :: r', z :: r'', a :: ar, b :: br, c :: cr, e1, e2, e3, h => by
    rw [cmpF_cons, cmpF_cons, cmpF_cons, lex_assoc _ (cmpF ar r br r'), lex_assoc _ (cmpF br r' cr r''), lex_assoc _ (cmpF ar r cr r''), List.length_cons, List.length_cons, List.length_cons, icmp_succ, icmp_succ, icmp_succ]
    exact Fit.lex (Fit.lex (fit_scmp a b c) (fun _ _ => h x (by simp) y (by simp) z (by simp)))
      (fun _ _ => fit_fields r r' r'' ar br cr (by simpa using e1) (by simpa using e2) (by simpa using e3) (fun a ha b hb c hc => h a (by simp [ha]) b (by simp [hb]) c (by simp [hc])))

/-- What a formed value has. -/
theorem formed_has {k n : Int} {s : ByteArray} {l : List PVal} {fn : List ByteArray} {fv : List PVal} (h : formedB (.mk k n s l fn fv) = true) :
    (k ≠ 2 → k ≠ 3 → n = 0) ∧ (k ≠ 4 → s = ByteArray.empty) ∧ (k ≠ 5 → l = []) ∧ (k ≠ 6 → fv = []) := by
  simp only [formedB, Bool.and_eq_true, decide_eq_true_eq] at h
  obtain ⟨⟨⟨⟨⟨⟨_, _⟩, h1⟩, h2⟩, h3⟩, h4⟩, _⟩ := h
  refine ⟨h1, fun hk => ?_, fun hk => List.eq_nil_of_length_eq_zero (h3 hk), fun hk => List.eq_nil_of_length_eq_zero (h4 hk)⟩
  have := h2 hk
  rw [ByteArray.toList_eq] at this
  exact Go.WideShapes.bytes_inj this

theorem fit_V (a : PVal) : a.fits → a.all formedB = true → ∀ b c : PVal, b.fits → b.all formedB = true → c.fits → c.all formedB = true → Fit (cmpV a b) (cmpV b c) (cmpV a c) := by
  refine PVal.ind (M := fun a => a.fits → a.all formedB = true → ∀ b c : PVal, b.fits → b.all formedB = true → c.fits → c.all formedB = true → Fit (cmpV a b) (cmpV b c) (cmpV a c)) ?_ a
  intro k n s l fn fv hl hf hfit hall b c hb hab hc hac
  obtain ⟨k', n', s', l', fn', fv'⟩ := b
  obtain ⟨k'', n'', s'', l'', fn'', fv''⟩ := c
  simp only [PVal.fits, fitsL_iff] at hfit hb hc
  rw [all_parts, Bool.and_eq_true] at hall hab hac
  obtain ⟨a1, a2, a3, a4⟩ := formed_has hall.1
  obtain ⟨b1, b2, b3, b4⟩ := formed_has hab.1
  obtain ⟨c1, c2, c3, c4⟩ := formed_has hac.1
  have ha' := List.all_eq_true.1 hall.2
  have hb' := List.all_eq_true.1 hab.2
  have hc' := List.all_eq_true.1 hac.2
  rw [cmpV_lex, cmpV_lex, cmpV_lex]
  refine Fit.lex (fit_icmp k k' k'') (fun e1 e2 => ?_)
  obtain rfl := icmp_zero.1 e1
  obtain rfl := icmp_zero.1 e2
  by_cases h5 : k = 5
  · subst h5
    have f1 := a4 (by decide); have f2 := b4 (by decide); have f3 := c4 (by decide)
    subst f1 f2 f3
    rw [(cmpF_nil _ _ _).1, (cmpF_nil _ _ _).1, (cmpF_nil _ _ _).1, a1 (by decide) (by decide), b1 (by decide) (by decide), c1 (by decide) (by decide), a2 (by decide), b2 (by decide), c2 (by decide)]
    simp only [icmp_zero.2, scmp_zero.2, lex_zero_left, lex_zero_right]
    simp only [PVal.parts] at ha' hb' hc'
    exact fit_list l l' l'' (fun x hx y hy z hz => hl x hx (hfit.2.2.2.2.2.2.2.1 x hx) (ha' x hx) y z (hb.2.2.2.2.2.2.2.1 y hy) (hb' y hy) (hc.2.2.2.2.2.2.2.1 z hz) (hc' z hz))
  by_cases h6 : k = 6
  · subst h6
    have f1 := a3 (by decide); have f2 := b3 (by decide); have f3 := c3 (by decide)
    subst f1 f2 f3
    rw [(cmpL_nil _).1, a1 (by decide) (by decide), b1 (by decide) (by decide), c1 (by decide) (by decide), a2 (by decide), b2 (by decide), c2 (by decide)]
    simp only [icmp_zero.2, scmp_zero.2, lex_zero_left]
    simp only [PVal.parts] at ha' hb' hc'
    exact fit_fields fv fv' fv'' fn fn' fn'' hfit.2.2.2.2.1 hb.2.2.2.2.1 hc.2.2.2.2.1 (fun x hx y hy z hz => hf x hx (hfit.2.2.2.2.2.2.2.2 x hx) (ha' x hx) y z (hb.2.2.2.2.2.2.2.2 y hy) (hb' y hy) (hc.2.2.2.2.2.2.2.2 z hz) (hc' z hz))
  · have f1 := a3 h5; have f2 := b3 h5; have f3 := c3 h5
    have g1 := a4 h6; have g2 := b4 h6; have g3 := c4 h6
    subst f1 f2 f3 g1 g2 g3
    rw [(cmpL_nil _).1, (cmpF_nil _ _ _).1, (cmpF_nil _ _ _).1, (cmpF_nil _ _ _).1]
    simp only [icmp_zero.2, lex_zero_left, lex_zero_right]
    exact Fit.lex (fit_icmp n n' n'') (fun _ _ => fit_scmp s s' s'')
end Go.Proofs.YtihcegakghmdfaaDoor

namespace Go.Proofs.YtihcegakghmdfaaDoor

theorem scmp_empty : scmp ByteArray.empty ByteArray.empty = 0 := rfl
theorem icmp_self (x : Int) : icmp x x = 0 := by simp [icmp]
/-- In the reference's order: kind, number, text, list, fields, lengths. -/
theorem cmpV_ref {k n : Int} {s : ByteArray} {l : List PVal} {fn : List ByteArray} {fv : List PVal} {k' n' : Int} {s' : ByteArray} {l' : List PVal} {fn' : List ByteArray} {fv' : List PVal}
    (h : formedB (.mk k n s l fn fv) = true) (h' : formedB (.mk k' n' s' l' fn' fv') = true) (hl : fn.length = fv.length) (hl' : fn'.length = fv'.length) :
    cmpV (.mk k n s l fn fv) (.mk k' n' s' l' fn' fv') = lex (icmp k k') (lex (icmp n n') (lex (scmp s s') (lex (cmpL l l') (lex (cmpF fn fv fn' fv') (icmp (l.length + fv.length) (l'.length + fv'.length)))))) := by
  rw [cmpV_lex]
  by_cases hk : k = k'
  · subst hk
    obtain ⟨a1, a2, a3, a4⟩ := formed_has h
    obtain ⟨b1, b2, b3, b4⟩ := formed_has h'
    by_cases c5 : k = 5
    · have n0 := a1 (by omega) (by omega)
      have n0' := b1 (by omega) (by omega)
      have s0 := a2 (by omega)
      have s0' := b2 (by omega)
      have f0 := a4 (by omega)
      have f0' := b4 (by omega)
      subst n0 n0' s0 s0' f0 f0'
      have e : fn = [] := List.eq_nil_of_length_eq_zero (by simpa using hl)
      have e' : fn' = [] := List.eq_nil_of_length_eq_zero (by simpa using hl')
      subst e e'
      simp [lex, icmp_self, scmp_empty, cmpF]
      repeat' split
      all_goals omega
    have l0 := a3 c5
    have l0' := b3 c5
    subst l0 l0'
    by_cases c6 : k = 6
    · have n0 := a1 (by omega) (by omega)
      have n0' := b1 (by omega) (by omega)
      have s0 := a2 (by omega)
      have s0' := b2 (by omega)
      subst n0 n0' s0 s0'
      simp [lex, icmp_self, scmp_empty, cmpL]
    have f0 := a4 c6
    have f0' := b4 c6
    subst f0 f0'
    have e : fn = [] := List.eq_nil_of_length_eq_zero (by simpa using hl)
    have e' : fn' = [] := List.eq_nil_of_length_eq_zero (by simpa using hl')
    subst e e'
    simp [lex, icmp_self, cmpL, cmpF]
  · have : icmp k k' ≠ 0 := by unfold icmp; split <;> (try split) <;> omega
    simp [lex, this]
end Go.Proofs.YtihcegakghmdfaaDoor
