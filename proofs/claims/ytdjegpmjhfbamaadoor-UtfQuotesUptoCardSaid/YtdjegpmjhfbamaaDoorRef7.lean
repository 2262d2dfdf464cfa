/-
  Walks: the reference's Runes, Valid.
-/
import Derived.Test.YtdjegpmjhfbamaaDoorUtfQ
import Derived.Test.YtdjegpmjhfbamaaDoorRef6
namespace Go.Proofs.YtdjegpmjhfbamaaDoor
open Go.RowKit Go.Proofs

theorem getD_drop (l : List UInt8) (i j : Nat) : (l.drop i).getD j 0 = l.getD (i + j) 0 := by simp [List.getD, List.getElem?_drop]
theorem nextS_step (s : ByteArray) (i : Nat) : nextS s i = stepD (s.data.toList.drop i) := by
  unfold nextS stepD bt
  rw [getD_drop, getD_drop, getD_drop, getD_drop, List.length_drop]
  simp
def rcells (rs : List Nat) : List Value := rs.map fun (v : Nat) => Value.int .i32 (v : Int)
theorem info_i32 : (Tryd.prog.info? 21).map (fun i => (i.zero, i.size, i.bytes)) = some (some (.int .i32 0), 1, 4) := by kernel_rfl

/-- What Runes tells. -/
def RunesTold (s : ByteArray) (w : World) (e : Ending) (w' : World) : Prop :=
  ∃ v, e = .returned (.tuple #[v, .bool (runesD s.data.toList).isSome]) ∧ Below w.heap.size w w' ∧ (∀ rs, runesD s.data.toList = some rs → w'.ownsRow w.heap.size 21 1 v rs.length (rcells rs)) ∧ (runesD s.data.toList = none → v = .slice none 0 0)

set_option maxRecDepth 100000 in
set_option maxHeartbeats 2000000 in
theorem rrunes_calls (s : ByteArray) (hs : s.size ≤ 35184372088832) (w : World) : Calls Tryd.prog 27 #[.string s] w (RunesTold s w) := by
  obtain ⟨i0, hi, hz0, hz1, hz2⟩ := info_parts info_i32
  have hnx := hid (fun i hi w => next_calls s (by omega) i hi w)
  have hll : Hid (s.data.toList.length = s.size) := by show _ = _; simp
  go_enter Tryd.func27, Tryd.ntmps27
  go_wp2_with fail
  go_loopg [4, 5] s.size (fun g o a wr => ∃ (i : Nat) (done : List Nat), g + i = s.size ∧ a = .int .i64 i ∧ runesD s.data.toList = (runesD (s.data.toList.drop i)).map (done ++ ·) ∧ done.length ≤ i ∧ wr.ownsRow w.heap.size 21 1 o done.length (rcells done) ∧ Below w.heap.size w wr)
  case atStart => exact ⟨0, [], by omega, rfl, by simp, by simp, World.ownsRow_nil _ _ _ _, Below.refl _ _⟩
  case round =>
    obtain ⟨i, done, hg, rfl, hrd, hdl, hown, hb⟩ := hrel
    replace hrd := hid hrd
    by_cases hlt : i < s.size
    · have hne : s.data.toList.drop i ≠ [] := by
        intro h
        have := congrArg List.length h
        rw [List.length_drop, hll.out] at this
        simp at this
        omega
      have hstep := hnx.out i hlt wr
      rw [nextS_step] at hstep
      cases hS : stepD (s.data.toList.drop i) with
      | none =>
        rw [hS] at hstep
        have hbad : Hid (runesD s.data.toList = none) := by show _ = _; rw [hrd.out, runesD_bad hne hS]; rfl
        clear hS
        go_wp2_with fail
        refine hstep.mono ?_
        rintro e w1 ⟨⟨x, y, rfl, _⟩, rfl⟩
        go_wp2_with fail
        go_returns
        exact ⟨_, by rw [hbad.out]; rfl, hb, fun rs h => (by rw [hbad.out] at h; cases h), fun _ => rfl⟩
      | some p =>
        obtain ⟨v, sz⟩ := p
        rw [hS] at hstep
        have hsz := stepD_some hS hne
        rw [List.length_drop, hll.out] at hsz
        have hok := hid (runesD_ok hne hS)
        clear hS
        go_wp2_with fail
        refine hstep.mono ?_
        rintro e w1 ⟨⟨x, y, rfl, hxy⟩, rfl⟩
        obtain ⟨hx, hy⟩ := hxy (v, sz) rfl
        have hx : x = (v : Int) := hx
        have hy : y = ((i + sz : Nat) : Int) := by rw [hy]; push_cast; rfl
        clear hxy
        subst hx hy
        go_wp2_with (first
          | (at_builtin; (refine wpList_append_own _ rfl _ _ 34 rfl w.heap.size 21 i0 (.int .i32 0) 1 4 Tryd.underlying34 hi hz0 hz1 hz2 rfl (by decide) _ done.length (rcells done) rfl (hown.alloc _) ⟨wr.heap.size, 0, none⟩ 1 1 [.int .i32 v] rfl rfl (cells_new wr _ rfl [.int .i32 v] _) (by intro u hu; simp at hu; subst hu; rfl) (by unfold maxLen; omega) (by omega) (Nat.le_trans hb.size (below_new _ _).size) ?_); intro v2 w2 hown2 hg2 _))
        go_roundg (s.size - (i + sz))
        case measure => omega
        case rel =>
          refine ⟨i + sz, done ++ [v], by omega, by go_num, ?_, by simp; omega, ?_, ?_⟩
          · rw [hrd.out, hok.out, List.drop_drop]
            simp [Function.comp_def, Option.map_map]
          · have : (done ++ [v]).length = done.length + 1 := by simp
            rw [this, show rcells (done ++ [v]) = rcells done ++ [.int .i32 v] by simp [rcells]]
            exact hown2
          · exact (hb.alloc hb.size _).grown hg2 (Nat.le_trans hb.size (below_new _ _).size) (fun k hk => (hown.lt k hk).1)
    · have hnil : s.data.toList.drop i = [] := List.drop_eq_nil_of_le (by rw [hll.out]; omega)
      have hgood : Hid (runesD s.data.toList = some done) := by show _ = _; rw [hrd.out, hnil, runesD_nil]; simp
      go_wp2_with fail
      go_returns
      refine ⟨_, by rw [hgood.out]; rfl, hb, fun rs h => ?_, fun h => by rw [hgood.out] at h; cases h⟩
      rw [hgood.out] at h
      obtain rfl := Option.some.inj h
      exact hown

theorem rvalid_calls (s : ByteArray) (hs : s.size ≤ 35184372088832) (w : World) : Calls Tryd.prog 21 #[.string s] w fun e w' => e = .returned (.bool (utf s)) ∧ Below w.heap.size w w' := by
  have hr := hid (rrunes_calls s hs)
  have he : Hid ((runesD s.data.toList).isSome = utf s) := runesD_valid _ _ rfl
  generalize utf s = U at *
  go_enter Tryd.func21, Tryd.ntmps21
  go_wp2_with fail
  refine (hr.out _).mono ?_
  rintro e w1 ⟨v, rfl, hb, _, _⟩
  rw [he.out]
  go_wp2_with fail
  go_ret
  exact ⟨rfl, hb⟩
end Go.Proofs.YtdjegpmjhfbamaaDoor
