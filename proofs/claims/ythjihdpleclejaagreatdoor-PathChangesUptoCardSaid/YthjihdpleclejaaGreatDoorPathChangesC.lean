/-
  The card of PathChanges (arguments of bulk at most 1048576).
-/
import Derived.Test.YthjihdpleclejaaGreatDoorMgLaid
import Derived.Test.YthjihdpleclejaaGreatDoorMgPthP
import Derived.Test.YthjihdpleclejaaGreatDoorMgPth60
namespace Go.Proofs.YthjihdpleclejaaGreatDoor.pathChanges
open Go.Shelf Go.ChangeShapes Go.WideShapes Go.ChangeAt Go.RowKit Go.Lib
open Go.ChangeMaps (open_string shut_string)
theorem range64 {n : Int} (h : (Lit.int .i64 n).wf = true) : -9223372036854775808 ≤ n ∧ n ≤ 9223372036854775807 := by
 simp only [Lit.wf, Bool.and_eq_true, decide_eq_true_eq] at h
 exact h
set_option maxRecDepth 100000 in
theorem contract (H : Type) (enc : TypeId × Value → H) (W : World) (base : Nat) (args : Array Value) (ds gs : List (DataW H)) (before : List MemPlace)
  (hval : ∀ (j : Nat) t v, Tryz.f4.params[j]? = some t → args[j]? = some v → Value.okWide Tryz.prog W .any base t v)
  (hW : DataW.Whole enc Tryz.prog Tryz.f4.params.toList Rows.pathChangesSpec.vars false W args.toList ds gs before) (hL : laidMetH Tryz.prog Rows.pathChangesUptoRow.laid W) (hM : Mx W) (hB : Rows.uptoSmall H (ds ++ gs) = true) (hz : (DataW.weightsEach Tryz.prog (Tryz.f4.params.toList ++ (Rows.OpenSpec.upto Rows.pathChangesSpec).bare.plain.varTypes Tryz.prog) (ds ++ gs)).all (· ≤ reachBytes) = true) :
  Calls Tryz.prog 4 args W fun e W' => ∃ v, e = .returned v ∧ Rows.pathChangesSpec.post enc Tryz.prog Tryz.f4 false true false false W args v W' := by
 have hW' := hW
 obtain ⟨p, q, hA0, hV, rfl, hfz, hnd⟩ := hW
 have hA : DataW.TrodAll enc Tryz.prog W 0 (fun _ => true) true Tryz.f4.params.toList args.toList ds p := hA0
 rw [Tryz.params4] at hA hval hz
 obtain ⟨v0, vs0, d0, ds0, p0, q0, hargs, rfl, rfl, h0, r0⟩ := trodAll_cons hA
 obtain ⟨v1, vs1, d1, ds1, p1, q1, rfl, rfl, rfl, h1, r1⟩ := trodAll_cons r0
 obtain ⟨v2, vs2, d2, ds2, p2, q2, rfl, rfl, rfl, h2, r2⟩ := trodAll_cons r1
 obtain ⟨v3, vs3, d3, ds3, p3, q3, rfl, rfl, rfl, h3, r3⟩ := trodAll_cons r2
 obtain ⟨rfl, rfl, rfl⟩ := trodAll_nil r3
 obtain rfl : args = #[v0, v1, v2, v3] := by cases args; simp_all
 obtain ⟨rfl, rfl⟩ := trodVars_none hV
 have hlt0 : ∀ x ∈ p0, x.block < W.heap.size := fun x hx => hW'.lt x (by simp [hx])
 have hlt2 : ∀ x ∈ p2, x.block < W.heap.size := fun x hx => hW'.lt x (by simp [hx])
 have hk0 := h0
 have hw0 : ∀ k ∈ DataW.weights Tryz.prog 25 d0, k ≤ reachBytes := fun k hk => all_le hz _ (DataW.weights_mem_each (j := 0) rfl rfl k hk)
 obtain ⟨cs0, V0, rfl, hR0, hM0⟩ := open_val (hval 0 25 v0 rfl rfl) h0 hw0
 have hw1 : ∀ k ∈ DataW.weights Tryz.prog 9 d1, k ≤ reachBytes := fun k hk => all_le hz _ (DataW.weights_mem_each (j := 1) rfl rfl k hk)
 obtain ⟨pa, rfl, rfl, rfl, wpa⟩ := open_string Tryz.underlying9 (hval 1 9 v1 rfl rfl) h1
 have spa : pa.size ≤ 140737488351232 := by
  have := hw1 pa.data.toList.length (by simp [DataW.weights])
  rw [Array.length_toList] at this
  exact this
 have zpa : pa.data.toList.length = pa.size := Array.length_toList
 have hk2 := h2
 have hw2 : ∀ k ∈ DataW.weights Tryz.prog 25 d2, k ≤ reachBytes := fun k hk => all_le hz _ (DataW.weights_mem_each (j := 2) rfl rfl k hk)
 obtain ⟨cs2, V2, rfl, hR2, hM2⟩ := open_val (hval 2 25 v2 rfl rfl) h2 hw2
 obtain ⟨n, rfl, rfl, rfl, wn⟩ := open_int Tryz.underlying2 (hval 3 2 v3 rfl rfl) h3
 have hBd : Rows.uptoBulkAll _ ≤ 1048576 := of_decide_eq_true hB
 simp only [List.cons_append, List.nil_append, Rows.uptoBulkAll, Rows.uptoBulk] at hBd
 clear hA0
 simp only [List.append_nil] at hW'
 refine (changes_calls V0 V2 n (range64 wn) (by omega) (by omega) pa (by omega) (tabs_of hL) hM hR0 hR2).mono fun e W' ⟨he, hb⟩ => ?_
 subst he
 refine ⟨_, rfl, _, _, _, [], (p0 ++ ([] ++ (p2 ++ ([] ++ ([]))))), [], hW', ?_, ?_, rfl, hb.frame _, fun h => by cases h⟩
 ·exact trodAll_mk1 (shut_bool Tryz.underlying4 _)
 ·exact (trodAll_cons_mk (Below.trod laid_out (by kernel_rfl) (of_decide_eq_true (by kernel_rfl)) hk0 hb hlt0) (trodAll_cons_mk (shut_string Tryz.underlying9 wpa) (trodAll_cons_mk (Below.trod laid_out (by kernel_rfl) (of_decide_eq_true (by kernel_rfl)) hk2 hb hlt2) (trodAll_cons_mk (shut_int Tryz.underlying2 wn) trodAll_mk0))))
theorem reads (os : Os) {H : Type} (enc : TypeId × Value → H) : ∃ places, DataW.whole enc Tryz.prog ((laidWorld os).forCall (fun _ _ => 0) ⟨#[], #[.agg #[.int .i64 0, .int .i64 0, .string ⟨#[]⟩, .slice none 0 0, .slice none 0 0], .string ⟨#[]⟩, .agg #[.int .i64 0, .int .i64 0, .string ⟨#[]⟩, .slice none 0 0, .slice none 0 0], .int .i64 0], []⟩).memory Tryz.f4.params.toList Rows.pathChangesSpec.vars false (#[.agg #[.int .i64 0, .int .i64 0, .string ⟨#[]⟩, .slice none 0 0, .slice none 0 0], .string ⟨#[]⟩, .agg #[.int .i64 0, .int .i64 0, .string ⟨#[]⟩, .slice none 0 0, .slice none 0 0], .int .i64 0] : Array Value).toList 8 = some ([.agg [.lit (.int .i64 0), .lit (.int .i64 0), .lit (.string []), .nil, .nil], .lit (.string []), .agg [.lit (.int .i64 0), .lit (.int .i64 0), .lit (.string []), .nil, .nil], .lit (.int .i64 0)], [], places) :=
 ⟨[], by kernel_rfl⟩
set_option maxRecDepth 100000 in
theorem lifted (os : Os) (started : os.Started) (H : Type) (enc : TypeId × Value → H) (F : Stop.Interp) :
  ReturnsInHanded {} Tryz.checked os 4 .any ((Rows.OpenSpec.upto Rows.pathChangesSpec).preRow enc Tryz.prog Tryz.f4 Rows.pathChangesUptoRow.domain false Rows.pathChangesUptoRow.laid) (((Rows.OpenSpec.upto Rows.pathChangesSpec).at F).post enc Tryz.prog Tryz.f4 false true false false) := by
 obtain ⟨places, hx⟩ := reads os enc
 refine returnsInHanded_of_row (C := Tryz.checked) (s := Rows.OpenSpec.upto Rows.pathChangesSpec) own started (by kernel_rfl) Tryz.func4
  (witness_row_atRef (enc := enc) (C := Tryz.checked) false (laidWorld os) #[.agg #[.int .i64 0, .int .i64 0, .string ⟨#[]⟩, .slice none 0 0, .slice none 0 0], .string ⟨#[]⟩, .agg #[.int .i64 0, .int .i64 0, .string ⟨#[]⟩, .slice none 0 0, .slice none 0 0], .int .i64 0] rfl (by kernel_rfl) (by kernel_rfl) (by kernel_rfl)
   (OpenSpec.preRow_of_cond 8 hx (by kernel_rfl) (fun k hk => by cases hk; kernel_rfl) (by kernel_rfl) (laid_met os _))) ?_
 intro W base args ds gs before hval hW _ hcond hz hL hsh _
 exact contract H enc W base args ds gs before hval hW hL (mx_of hsh) (hcond _ rfl) hz
theorem said : Rows.PathChangesUptoSaid :=
 OpenClaim.holds_of_cond 4 Tryz.f4 rfl rfl rfl rfl rfl rfl rfl ⟨rfl, rfl, rfl, rfl, rfl⟩ rfl rfl rfl rfl rfl (by kernel_rfl) Tryz.func4 (by kernel_rfl)
  (of_decide_eq_true (by kernel_rfl)) (by unfold Func.isWrapper; first | (rw [if_pos (by decide +kernel)]; kernel_rfl) | (rw [if_neg (by decide +kernel)]; exact ⟨rfl, rfl⟩))
  (fun os started H enc _ F => by rw [OpenClaim.pre_eq_preRow]; exact lifted os started H enc F)
theorem plain (f : FuncId) (fn : Func) (hf : Tryz.pinned.checked.prog.funcNamed "tidemark/tidemarklaw6.PathChanges" = some f) (hfn : Tryz.pinned.checked.prog.funcs[f]? = some fn) :
  false = Tryz.pinned.checked.prog.looks [] ∧ ∀ (j : Nat) t, fn.params[j]? = some t → Tryz.pinned.checked.prog.wantsStandIn t = false := by
 obtain rfl : f = 4 := Option.some.inj ((show Tryz.prog.funcNamed "tidemark/tidemarklaw6.PathChanges" = some 4 by kernel_rfl).symm.trans hf) |>.symm
 obtain rfl : fn = Tryz.f4 := (Option.some.inj (Tryz.func4.symm.trans hfn)).symm
 refine ⟨by kernel_rfl, fun j t ht => ?_⟩
 rw [Tryz.params4] at ht
 have hm := Array.mem_of_getElem? ht
 have hm2 : t = 25 ∨ t = 9 ∨ t = 2 := by
  simp at hm
  first | exact hm | (rcases hm with h | h | h <;> simp [h]) | (rcases hm with h | h | h | h <;> simp [h]) | omega
 rcases hm2 with rfl | rfl | rfl
 ·exact (show Tryz.prog.wantsStandIn 25 = false by kernel_rfl)
 ·exact (show Tryz.prog.wantsStandIn 9 = false by kernel_rfl)
 ·exact (show Tryz.prog.wantsStandIn 2 = false by kernel_rfl)
theorem card : Rows.PathChangesUptoCardSaid :=
 Claim7.holds_tied_plain_at .later [] _ _ _ _ said (fun _ h => by cases h) (by kernel_rfl) (fun _ h => by cases h) pathChangesUpto_row_tie rfl ⟨rfl, rfl⟩ (by kernel_rfl) rfl plain (by kernel_rfl)
end Go.Proofs.YthjihdpleclejaaGreatDoor.pathChanges
