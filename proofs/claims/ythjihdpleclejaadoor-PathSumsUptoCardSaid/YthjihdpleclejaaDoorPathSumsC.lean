/-
  The card of PathSums (arguments of bulk at most 1048576).
-/
import Derived.Test.YthjihdpleclejaaDoorMgLaid
import Derived.Test.YthjihdpleclejaaDoorMgPthP
import Derived.Test.YthjihdpleclejaaDoorMgPthS
namespace Go.Proofs.YthjihdpleclejaaDoor.pathSums
open Go.Shelf Go.ChangeShapes Go.WideShapes Go.ChangeAt Go.RowKit Go.Lib
open Go.ChangeMaps (open_string shut_string)

theorem range32 {n : Int} (h : (Lit.int .i32 n).wf = true) : -2147483648 ≤ n ∧ n ≤ 2147483647 := by
  simp only [Lit.wf, Bool.and_eq_true, decide_eq_true_eq] at h
  exact h

set_option maxRecDepth 100000 in
theorem contract (H : Type) (enc : TypeId × Value → H) (W : World) (base : Nat) (args : Array Value) (ds gs : List (DataW H)) (before : List MemPlace)
    (hval : ∀ (j : Nat) t v, Tryd.f7.params[j]? = some t → args[j]? = some v → Value.okWide Tryd.prog W .any base t v)
    (hW : DataW.Whole enc Tryd.prog Tryd.f7.params.toList Rows.pathSumsSpec.vars false W args.toList ds gs before) (hL : laidMetH Tryd.prog Rows.pathSumsUptoRow.laid W) (hM : Mx W) (hB : Rows.uptoSmall H (ds ++ gs) = true) (hz : (DataW.weightsEach Tryd.prog (Tryd.f7.params.toList ++ (Rows.OpenSpec.upto Rows.pathSumsSpec).bare.plain.varTypes Tryd.prog) (ds ++ gs)).all (· ≤ reachBytes) = true) :
    Calls Tryd.prog 7 args W fun e W' => ∃ v, e = .returned v ∧ Rows.pathSumsSpec.post enc Tryd.prog Tryd.f7 false true false false W args v W' := by
  have hW' := hW
  obtain ⟨p, q, hA0, hV, rfl, hfz, hnd⟩ := hW
  have hA : DataW.TrodAll enc Tryd.prog W 0 (fun _ => true) true Tryd.f7.params.toList args.toList ds p := hA0
  rw [Tryd.params7] at hA hval hz
  obtain ⟨v0, vs0, d0, ds0, p0, q0, hargs, rfl, rfl, h0, r0⟩ := trodAll_cons hA
  obtain ⟨v1, vs1, d1, ds1, p1, q1, rfl, rfl, rfl, h1, r1⟩ := trodAll_cons r0
  obtain ⟨v2, vs2, d2, ds2, p2, q2, rfl, rfl, rfl, h2, r2⟩ := trodAll_cons r1
  obtain ⟨v3, vs3, d3, ds3, p3, q3, rfl, rfl, rfl, h3, r3⟩ := trodAll_cons r2
  obtain ⟨v4, vs4, d4, ds4, p4, q4, rfl, rfl, rfl, h4, r4⟩ := trodAll_cons r3
  obtain ⟨rfl, rfl, rfl⟩ := trodAll_nil r4
  obtain rfl : args = #[v0, v1, v2, v3, v4] := by cases args; simp_all
  obtain ⟨rfl, rfl⟩ := trodVars_none hV
  have hlt0 : ∀ x ∈ p0, x.block < W.heap.size := fun x hx => hW'.lt x (by simp [hx])
  have hlt4 : ∀ x ∈ p4, x.block < W.heap.size := fun x hx => hW'.lt x (by simp [hx])
  have hk0 := h0
  have hw0 : ∀ k ∈ DataW.weights Tryd.prog 25 d0, k ≤ reachBytes := fun k hk => all_le hz _ (DataW.weights_mem_each (j := 0) rfl rfl k hk)
  obtain ⟨cs0, V0, rfl, hR0, hM0⟩ := open_val (hval 0 25 v0 rfl rfl) h0 hw0
  have hw1 : ∀ k ∈ DataW.weights Tryd.prog 9 d1, k ≤ reachBytes := fun k hk => all_le hz _ (DataW.weights_mem_each (j := 1) rfl rfl k hk)
  obtain ⟨pa, rfl, rfl, rfl, wpa⟩ := open_string Tryd.underlying9 (hval 1 9 v1 rfl rfl) h1
  have spa : pa.size ≤ 140737488351232 := by
    have := hw1 pa.data.toList.length (by simp [DataW.weights])
    rw [Array.length_toList] at this
    exact this
  have zpa : pa.data.toList.length = pa.size := Array.length_toList
  obtain ⟨a, rfl, rfl, rfl, wa⟩ := open_int Tryd.underlying21 (hval 2 21 v2 rfl rfl) h2
  obtain ⟨b, rfl, rfl, rfl, wb⟩ := open_int Tryd.underlying21 (hval 3 21 v3 rfl rfl) h3
  have hk4 := h4
  have hw4 : ∀ k ∈ DataW.weights Tryd.prog 25 d4, k ≤ reachBytes := fun k hk => all_le hz _ (DataW.weights_mem_each (j := 4) rfl rfl k hk)
  obtain ⟨cs4, V4, rfl, hR4, hM4⟩ := open_val (hval 4 25 v4 rfl rfl) h4 hw4
  have hBd : Rows.uptoBulkAll _ ≤ 1048576 := of_decide_eq_true hB
  simp only [List.cons_append, List.nil_append, Rows.uptoBulkAll, Rows.uptoBulk] at hBd
  clear hA0
  simp only [List.append_nil] at hW'
  refine (sums_calls V0 V4 a b (range32 wa) (range32 wb) (by omega) (by omega) pa (by omega) (tabs_of hL) hM hR0 hR4).mono fun e W' ⟨he, hb⟩ => ?_
  subst he
  refine ⟨_, rfl, _, _, _, [], (p0 ++ ([] ++ ([] ++ ([] ++ (p4 ++ ([])))))), [], hW', ?_, ?_, rfl, hb.frame _, fun h => by cases h⟩
  · exact trodAll_mk1 (shut_bool Tryd.underlying4 _)
  · exact (trodAll_cons_mk (Below.trod laid_out (by kernel_rfl) (of_decide_eq_true (by kernel_rfl)) hk0 hb hlt0) (trodAll_cons_mk (shut_string Tryd.underlying9 wpa) (trodAll_cons_mk (shut_int Tryd.underlying21 wa) (trodAll_cons_mk (shut_int Tryd.underlying21 wb) (trodAll_cons_mk (Below.trod laid_out (by kernel_rfl) (of_decide_eq_true (by kernel_rfl)) hk4 hb hlt4) trodAll_mk0)))))

theorem reads (os : Os) {H : Type} (enc : TypeId × Value → H) : ∃ places, DataW.whole enc Tryd.prog ((laidWorld os).forCall (fun _ _ => 0) ⟨#[], #[.agg #[.int .i64 0, .int .i64 0, .string ⟨#[]⟩, .slice none 0 0, .slice none 0 0], .string ⟨#[]⟩, .int .i32 0, .int .i32 0, .agg #[.int .i64 0, .int .i64 0, .string ⟨#[]⟩, .slice none 0 0, .slice none 0 0]], []⟩).memory Tryd.f7.params.toList Rows.pathSumsSpec.vars false (#[.agg #[.int .i64 0, .int .i64 0, .string ⟨#[]⟩, .slice none 0 0, .slice none 0 0], .string ⟨#[]⟩, .int .i32 0, .int .i32 0, .agg #[.int .i64 0, .int .i64 0, .string ⟨#[]⟩, .slice none 0 0, .slice none 0 0]] : Array Value).toList 8 = some ([.agg [.lit (.int .i64 0), .lit (.int .i64 0), .lit (.string []), .nil, .nil], .lit (.string []), .lit (.int .i32 0), .lit (.int .i32 0), .agg [.lit (.int .i64 0), .lit (.int .i64 0), .lit (.string []), .nil, .nil]], [], places) :=
  ⟨[], by kernel_rfl⟩

set_option maxRecDepth 100000 in
theorem lifted (os : Os) (started : os.Started) (H : Type) (enc : TypeId × Value → H) (F : Stop.Interp) :
    ReturnsInHanded {} Tryd.checked os 7 .any ((Rows.OpenSpec.upto Rows.pathSumsSpec).preRow enc Tryd.prog Tryd.f7 Rows.pathSumsUptoRow.domain false Rows.pathSumsUptoRow.laid) (((Rows.OpenSpec.upto Rows.pathSumsSpec).at F).post enc Tryd.prog Tryd.f7 false true false false) := by
  obtain ⟨places, hx⟩ := reads os enc
  refine returnsInHanded_of_row (C := Tryd.checked) (s := Rows.OpenSpec.upto Rows.pathSumsSpec) own started (by kernel_rfl) Tryd.func7
    (witness_row_atRef (enc := enc) (C := Tryd.checked) false (laidWorld os) #[.agg #[.int .i64 0, .int .i64 0, .string ⟨#[]⟩, .slice none 0 0, .slice none 0 0], .string ⟨#[]⟩, .int .i32 0, .int .i32 0, .agg #[.int .i64 0, .int .i64 0, .string ⟨#[]⟩, .slice none 0 0, .slice none 0 0]] rfl (by kernel_rfl) (by kernel_rfl) (by kernel_rfl)
      (OpenSpec.preRow_of_cond 8 hx (by kernel_rfl) (fun k hk => by cases hk; kernel_rfl) (by kernel_rfl) (laid_met os _))) ?_
  intro W base args ds gs before hval hW _ hcond hz hL hsh _
  exact contract H enc W base args ds gs before hval hW hL (mx_of hsh) (hcond _ rfl) hz

theorem said : Rows.PathSumsUptoSaid :=
  OpenClaim.holds_of_cond 7 Tryd.f7 rfl rfl rfl rfl rfl rfl rfl ⟨rfl, rfl, rfl, rfl, rfl⟩ rfl rfl rfl rfl rfl (by kernel_rfl) Tryd.func7 (by kernel_rfl)
    (of_decide_eq_true (by kernel_rfl)) (by unfold Func.isWrapper; first | (rw [if_pos (by decide +kernel)]; kernel_rfl) | (rw [if_neg (by decide +kernel)]; exact ⟨rfl, rfl⟩))
    (fun os started H enc _ F => by rw [OpenClaim.pre_eq_preRow]; exact lifted os started H enc F)

theorem plain (f : FuncId) (fn : Func) (hf : Tryd.pinned.checked.prog.funcNamed "tidemark/tidemarklaw6.PathSums" = some f) (hfn : Tryd.pinned.checked.prog.funcs[f]? = some fn) :
    false = Tryd.pinned.checked.prog.looks [] ∧ ∀ (j : Nat) t, fn.params[j]? = some t → Tryd.pinned.checked.prog.wantsStandIn t = false := by
  obtain rfl : f = 7 := Option.some.inj ((show Tryd.prog.funcNamed "tidemark/tidemarklaw6.PathSums" = some 7 by kernel_rfl).symm.trans hf) |>.symm
  obtain rfl : fn = Tryd.f7 := (Option.some.inj (Tryd.func7.symm.trans hfn)).symm
  refine ⟨by kernel_rfl, fun j t ht => ?_⟩
  rw [Tryd.params7] at ht
  have hm := Array.mem_of_getElem? ht
  have hm2 : t = 25 ∨ t = 9 ∨ t = 21 := by
    simp at hm
    first | exact hm | (rcases hm with h | h | h <;> simp [h]) | (rcases hm with h | h | h | h <;> simp [h]) | omega
  rcases hm2 with rfl | rfl | rfl
  · exact (show Tryd.prog.wantsStandIn 25 = false by kernel_rfl)
  · exact (show Tryd.prog.wantsStandIn 9 = false by kernel_rfl)
  · exact (show Tryd.prog.wantsStandIn 21 = false by kernel_rfl)

/-- The card. -/
theorem card : Rows.PathSumsUptoCardSaid :=
  Claim7.holds_tied_plain_at .later [] _ _ _ _ said (fun _ h => by cases h) (by kernel_rfl) (fun _ h => by cases h) pathSumsUpto_row_tie rfl ⟨rfl, rfl⟩ (by kernel_rfl) rfl plain (by kernel_rfl)
end Go.Proofs.YthjihdpleclejaaDoor.pathSums
