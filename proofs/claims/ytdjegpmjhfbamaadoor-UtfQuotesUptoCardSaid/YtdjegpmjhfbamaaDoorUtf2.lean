/-
  Walks: utf's Runes, Count, Compare, Cut.
-/
import Derived.Test.YtdjegpmjhfbamaaDoorUtf1
import Derived.Test.YtdjegpmjhfbamaaDoorVal6
namespace Go.Proofs.YtdjegpmjhfbamaaDoor
open Go.RowKit Go.Proofs

theorem next_at {s : ByteArray} {i v sz : Nat} (h : nextS s i = some (v, sz)) : Utf8.decode s i = (v, sz) := by
  unfold nextS bt at h
  rw [next_decode _ _ _ _ _ (UInt8.toNat_lt _) (UInt8.toNat_lt _) (UInt8.toNat_lt _) (UInt8.toNat_lt _)] at h
  split at h
  · cases h
  · rw [Lib.decode_N, ← Lib.size_eq]
    exact Option.some.inj h

/-- What Runes tells. -/
def RunesSaid (s : ByteArray) (w : World) (e : Ending) (w' : World) : Prop :=
  ∃ a n cap, e = .returned (.tuple #[.slice a n cap, .int .i64 (if utf s = true then 0 else 11)]) ∧ Below w.heap.size w w' ∧ (∀ rs, runesD s.data.toList = some rs → n = rs.length ∧ w'.ownsRow w.heap.size 21 1 (.slice a n cap) rs.length (rcells rs) ∧ ∃ g, a = some ⟨g, 0, none⟩) ∧ (runesD s.data.toList = none → a = none ∧ n = 0 ∧ cap = 0)

theorem iter_kept {w w' : World} {k : Nat} {s : ByteArray} {pos : Nat} (hk : w.heap[k]? = some (.stringIter s pos)) {row : Option Nat} (hg : w.grownBy w' row) (hne : row ≠ some k) : w'.heap[k]? = some (.stringIter s pos) := by
  rw [hg.block k (Array.getElem?_eq_some_iff.1 hk).1 (fun e => hne e.symm)]
  exact hk
theorem row_iterAt {w : World} {B e n k pos pos' : Nat} {s : ByteArray} {v : Value} {xs : List Value} (h : w.ownsRow B e 1 v n xs) (hk : w.heap[k]? = some (.stringIter s pos)) : (w.iterAt k s pos').ownsRow B e 1 v n xs := by
  refine ⟨h.1, ?_⟩
  rcases h.2 with h0 | ⟨g, cap, cur, hv, hb, hg, rest⟩
  · exact .inl h0
  · refine .inr ⟨g, cap, cur, hv, hb, ?_, rest⟩
    have hgk : g ≠ k := by
      intro e1
      rw [e1, hk] at hg
      cases hg
    exact (Lib.iterAt_other w k g s pos' hgk).trans hg
theorem row_ne_iter {w : World} {B e n k pos : Nat} {s : ByteArray} {v : Value} {xs : List Value} (h : w.ownsRow B e 1 v n xs) (hk : w.heap[k]? = some (.stringIter s pos)) : v.ownBlock ≠ some k := by
  intro he
  rcases h.2 with ⟨rfl, h0⟩ | ⟨g, cap, cur, rfl, hb, hg, rest⟩
  · simp [Value.ownBlock] at he
  · simp [Value.ownBlock] at he
    subst he
    rw [hk] at hg
    cases hg

set_option maxRecDepth 100000 in
set_option maxHeartbeats 4000000 in
theorem runes_calls (s : ByteArray) (hs : s.size ≤ 35184372088832) (w : World) (hT : Tabs w) : Calls Tryd.prog 25 #[.string s] w (RunesSaid s w) := by
  obtain ⟨i0, hi, hz0, hz1, hz2⟩ := info_parts info_i32
  have hv := hid (valid_calls s w (by omega) hT)
  have hll : Hid (s.data.toList.length = s.size) := by show _ = _; simp
  have hval : Hid ((runesD s.data.toList).isSome = utf s) := runesD_valid _ _ rfl
  cases hU : utf s with
  | false =>
    rw [hU] at hv
    have hno : Hid (runesD s.data.toList = none) := by
      have := hval.out
      rw [hU] at this
      exact Option.not_isSome_iff_eq_none.1 (by rw [this]; decide)
    replace hU := hid hU
    go_enter Tryd.func25, Tryd.ntmps25
    go_wp2_with fail
    refine hv.out.mono ?_
    rintro e w1 ⟨rfl, hb1⟩
    go_wp2_with fail
    go_ret2
    exact ⟨none, 0, 0, by rw [hU.out]; rfl, hb1, fun rs h => (by rw [hno.out] at h; cases h), fun _ => ⟨rfl, rfl, rfl⟩⟩
  | true =>
    rw [hU] at hv
    obtain ⟨rs, hrs⟩ : ∃ rs, runesD s.data.toList = some rs := by
      have := hval.out
      rw [hU] at this
      exact Option.isSome_iff_exists.1 this
    have hrl := runes_len hrs
    rw [hll.out] at hrl
    have hend : Hid (∀ (v : Value) (w' : World), Below w.heap.size w w' → w'.ownsRow w.heap.size 21 1 v rs.length (rcells rs) → (∃ g n cap, v = .slice (some ⟨g, 0, none⟩) n cap ∧ n = rs.length) → RunesSaid s w (.returned (.tuple #[v, .int .i64 0])) w') := by
      rintro v w' hb ho ⟨g, n, cap, rfl, rfl⟩
      refine ⟨_, _, _, by rw [hU]; rfl, hb, fun rs' h => ?_, fun h => by rw [hrs] at h; cases h⟩
      rw [hrs] at h
      obtain rfl := Option.some.inj h
      exact ⟨rfl, ho, _, rfl⟩
    replace hrs := hid hrs
    clear hU
    go_enter Tryd.func25, Tryd.ntmps25
    go_wp2_with fail
    refine hv.out.mono ?_
    rintro e w1 ⟨rfl, hb1⟩
    have hsz1 := hb1.size
    go_wp2_with (first
      | (at_make; (refine wpList_make_own _ rfl _ _ 34 rfl w.heap.size 21 i0 (.int .i32 0) 1 Tryd.underlying34 hi hz0 hz1 _ _ _ s.size rfl rfl rfl (by rw [hz2]; omega) (by unfold maxLen; omega) hsz1 ?_); intro w2 hown2 hg2))
    have hb2 : Below w.heap.size w w2 := hb1.trans ((grown_below hg2).mono hsz1)
    have hiter : (w2.iter s 0).heap[w2.heap.size]? = some (.stringIter s 0) := World.iter_heap w2 s 0
    have hbi : Below w.heap.size w (w2.iter s 0) := hb2.alloc hb2.size _
    have hoi : (w2.iter s 0).ownsRow w.heap.size 21 1 (.slice (some ⟨w1.heap.size, 0, none⟩) 0 s.size) 0 [] := hown2.alloc _
    replace hiter := hid hiter
    replace hbi := hid hbi
    replace hoi := hid hoi
    generalize hK : w2.heap.size = K at *
    replace hK := hid hK
    go_loopg [4] s.size (fun g v wr => ∃ (pos : Nat) (done rest : List Nat), g + pos = s.size ∧ runesD (s.data.toList.drop pos) = some rest ∧ done ++ rest = rs ∧ done.length ≤ pos ∧ wr.ownsRow w.heap.size 21 1 v done.length (rcells done) ∧ wr.heap[K]? = some (.stringIter s pos) ∧ (∃ g n cap, v = .slice (some ⟨g, 0, none⟩) n cap ∧ n = done.length) ∧ Below w.heap.size w wr ∧ w.heap.size ≤ K)
    case atStart => exact ⟨0, [], rs, by omega, by simpa using hrs.out, rfl, by simp, hoi.out, hiter.out, ⟨_, _, _, rfl, rfl⟩, hbi.out, by have := hK.out; have := hb2.size; omega⟩
    case round =>
      obtain ⟨pos, done, rest, hg, hrest, hdr, hdl, hown, hit, ⟨g1, n1, cap1, rfl, rfl⟩, hb, hKw⟩ := hrel
      replace hrest := hid hrest
      replace hdr := hid hdr
      have hKlt : K < wr.heap.size := (Array.getElem?_eq_some_iff.1 hit).1
      by_cases hp : pos < s.size
      · have hne : s.data.toList.drop pos ≠ [] := by
          intro h
          have := congrArg List.length h
          rw [List.length_drop, hll.out] at this
          simp at this
          omega
        obtain ⟨v, sz, hS⟩ : ∃ v sz, stepD (s.data.toList.drop pos) = some (v, sz) := by
          cases hS : stepD (s.data.toList.drop pos) with
          | none => have := hrest.out; rw [runesD_bad hne hS] at this; cases this
          | some p => exact ⟨p.1, p.2, rfl⟩
        have hsz := stepD_some hS hne
        rw [List.length_drop, hll.out] at hsz
        have hdec := next_at (s := s) (i := pos) (by rw [nextS_step]; exact hS)
        have hnx : ∀ ty, (Instr.next (.pointer (some ⟨K, 0, none⟩)) true ty).run Tryd.prog wr = _ := fun ty => Lib.run_next_any_at wr K s pos ty hit hp
        have hoI := row_iterAt (pos' := pos + sz) hown hit
        have hitI := Lib.iterAt_heap wr K s pos (pos + sz) hit
        have hbI := Lib.below_iterAt hb (k := K) hKw s (pos + sz)
        rw [hdec] at hnx
        obtain ⟨rest', hr1, hr2⟩ := Option.map_eq_some_iff.1 (show (runesD ((s.data.toList.drop pos).drop sz)).map (v :: ·) = some rest by rw [← runesD_ok hne hS]; exact hrest.out)
        rw [List.drop_drop] at hr1
        replace hr1 := hid hr1
        replace hr2 := hid hr2
        obtain ⟨wn, hwn⟩ : ∃ wn, wn = wr.iterAt K s (pos + sz) := ⟨_, rfl⟩
        simp only at hnx
        rw [← hwn] at hnx hoI hitI hbI
        replace hwn := hid hwn
        clear hdec hS hne hit hown hb
        have hnb := hid (row_ne_iter hoI hitI)
        go_wp2_with (first
          | (at_builtin; (refine wpList_append_own _ rfl _ _ 34 rfl w.heap.size 21 i0 (.int .i32 0) 1 4 Tryd.underlying34 hi hz0 hz1 hz2 rfl (by decide) _ done.length (rcells done) rfl (hoI.alloc _) ⟨wn.heap.size, 0, none⟩ 1 1 [.int .i32 v] rfl rfl (cells_new wn _ rfl [.int .i32 v] _) (by intro u hu; simp at hu; subst hu; rfl) (by unfold maxLen; omega) (by omega) (Nat.le_trans hbI.size (below_new _ _).size) ?_); intro v2 w3 hown3 hg3 _))
        obtain ⟨g3, cap3, rfl⟩ : ∃ g3 cap3, v2 = .slice (some ⟨g3, 0, none⟩) (done.length + 1) cap3 := by
          rcases hown3.2 with ⟨_, h0⟩ | ⟨g, cap, cur, hv, _⟩
          · omega
          · exact ⟨g, cap, hv⟩
        go_roundg (s.size - (pos + sz))
        case measure => omega
        case rel =>
          refine ⟨pos + sz, done ++ [v], rest', by omega, hr1.out, by rw [← hdr.out, ← hr2.out]; simp, by simp; omega, ?_, ?_, ⟨_, _, _, rfl, by simp⟩, ?_, hKw⟩
          · have : (done ++ [v]).length = done.length + 1 := by simp
            rw [this, show rcells (done ++ [v]) = rcells done ++ [.int .i32 v] by simp [rcells]]
            exact hown3
          · exact iter_kept ((Lib.alloc_old wn _ K (Array.getElem?_eq_some_iff.1 hitI).1).trans hitI) hg3 hnb.out
          · exact (hbI.alloc hbI.size _).grown hg3 (Nat.le_trans hbI.size (below_new _ _).size) (fun k hk => (hoI.lt k hk).1)
      · have hnil : s.data.toList.drop pos = [] := List.drop_eq_nil_of_le (by rw [hll.out]; omega)
        have hrs' : rs = done := by
          have := hrest.out
          rw [hnil, runesD_nil] at this
          rw [← hdr.out, ← Option.some.inj this]; simp
        subst hrs'
        have hnx : ∀ ty, (Instr.next (.pointer (some ⟨K, 0, none⟩)) true ty).run Tryd.prog wr = _ := fun ty => Lib.run_next_end_at wr K s pos ty hit hp
        clear hnil
        have hbz := hb.size
        go_wp2_with (first
          | (at_make; (refine wpList_make_own _ rfl _ _ 34 rfl w.heap.size 21 i0 (.int .i32 0) 1 Tryd.underlying34 hi hz0 hz1 _ _ _ rs.length rfl rfl rfl (by rw [hz2]; omega) (by unfold maxLen; omega) hbz ?_); intro w4 hown4 hg4)
          | (at_builtin; refine wpList_append_fits_any _ rfl _ _ 34 rfl w.heap.size 21 i0 1 Tryd.underlying34 hi hz1 wr.heap.size 0 rs.length [] rfl hown4 (some ⟨g1, 0, none⟩) rs.length cap1 (rcells rs) rfl (by simp [rcells]) (fun h => by cases h) ?a2 ?a3 ?a4 ?_))
        case a2 =>
          intro ad had j u hu
          obtain rfl := Option.some.inj had
          exact (hown.kept hg4 (by right; simp [Value.ownBlock])).cells (g := g1) rfl j u hu
        case a3 =>
          intro u hu
          obtain ⟨x, _, rfl⟩ := List.mem_map.1 hu
          rfl
        case a4 => omega
        intro w5 hown5 hg5
        go_wp2_with fail
        go_ret2
        have hb4 := hb.trans ((grown_below hg4).mono hbz)
        refine hend.out _ _ (hb4.grown hg5 hb4.size (fun k hk => ?_)) hown5 ⟨_, _, _, rfl, rfl⟩
        obtain rfl := Option.some.inj hk
        exact hbz
theorem compare_utf (a b : ByteArray) (ha : a.size ≤ 140737488355328) (hb : b.size ≤ 140737488355328) (w : World) (hT : Tabs w) : Calls Tryd.prog 23 #[.string a, .string b] w fun e w' =>
    e = .returned (.tuple #[.int .i64 (if utf a = true ∧ utf b = true then scmp a b else 0), .int .i64 (if utf a = true ∧ utf b = true then 0 else 11)]) ∧ Below w.heap.size w w' := by
  have h1 := hid (valid_calls a w ha hT)
  have h2 := hid (fun w hT => valid_calls b w hb hT)
  have h3 : Hid (∀ w, Calls Tryd.prog 72 #[.string a, .string b] w fun e w' => e = .returned (.int .i64 (scmp a b)) ∧ w' = w) := fun w => Tryd.strings_Compare a b w
  have hT := hid (fun w' hb => Tabs.stays w w' hT hb)
  obtain ⟨X, hX⟩ : ∃ X : Int, X = (if utf a = true ∧ utf b = true then scmp a b else 0) := ⟨_, rfl⟩
  obtain ⟨E, hE⟩ : ∃ E : Int, E = (if utf a = true ∧ utf b = true then 0 else 11) := ⟨_, rfl⟩
  rw [← hX, ← hE]
  cases hA : utf a with
  | false =>
    rw [hA] at h1 hX hE
    rw [if_neg (by simp)] at hX hE
    subst hX hE
    clear hA
    go_enter Tryd.func23, Tryd.ntmps23
    go_wp2_with fail
    refine h1.out.mono ?_
    rintro e w1 ⟨rfl, hb1⟩
    go_wp2_with fail
    go_ret2
    exact ⟨rfl, hb1⟩
  | true =>
    rw [hA] at h1 hX hE
    clear hA
    cases hB : utf b with
    | false =>
      rw [hB] at h2 hX hE
      rw [if_neg (by simp)] at hX hE
      subst hX hE
      clear hB
      go_enter Tryd.func23, Tryd.ntmps23
      go_wp2_with fail
      refine h1.out.mono ?_
      rintro e w1 ⟨rfl, hb1⟩
      go_wp2_with fail
      refine (h2.out _ (hT.out _ hb1)).mono ?_
      rintro e w2 ⟨rfl, hb2⟩
      go_wp2_with fail
      go_ret2
      exact ⟨rfl, hb1.step hb2⟩
    | true =>
      rw [hB] at h2 hX hE
      rw [if_pos ⟨rfl, rfl⟩] at hX hE
      subst hE
      rw [← hX] at h3
      clear hB hX
      go_enter Tryd.func23, Tryd.ntmps23
      go_wp2_with fail
      refine h1.out.mono ?_
      rintro e w1 ⟨rfl, hb1⟩
      go_wp2_with fail
      refine (h2.out _ (hT.out _ hb1)).mono ?_
      rintro e w2 ⟨rfl, hb2⟩
      go_wp2_with fail
      refine (h3.out _).mono ?_
      rintro e w3 ⟨rfl, rfl⟩
      go_wp2_with fail
      go_ret2
      exact ⟨rfl, hb1.step hb2⟩

set_option maxHeartbeats 2000000 in
theorem count_calls_utf (s : ByteArray) (hs : s.size ≤ 35184372088832) (w : World) (hT : Tabs w) : Calls Tryd.prog 30 #[.string s] w fun e w' =>
    e = .returned (.tuple #[.int .i64 (((runesD s.data.toList).getD []).length : Nat), .int .i64 (if utf s = true then 0 else 11)]) ∧ Below w.heap.size w w' := by
  have h1 := hid (runes_calls s hs w hT)
  obtain ⟨E, hE⟩ : ∃ E : Int, E = (if utf s = true then 0 else 11) := ⟨_, rfl⟩
  rw [← hE]
  replace hE := hid hE
  go_enter Tryd.func30, Tryd.ntmps30
  go_wp2_with fail
  refine h1.out.mono ?_
  rintro e w1 ⟨a, n, cap, rfl, hb, hyes, hno⟩
  rw [← hE.out]
  have hn : Hid (n = ((runesD s.data.toList).getD []).length) := by
    show _ = _
    cases hr : runesD s.data.toList with
    | none => rw [(hno hr).2.1]; rfl
    | some rs => rw [(hyes rs hr).1]; rfl
  clear hyes hno
  go_wp2_with fail
  go_ret2
  exact ⟨by rw [hn.out]; rfl, hb⟩
end Go.Proofs.YtdjegpmjhfbamaaDoor
