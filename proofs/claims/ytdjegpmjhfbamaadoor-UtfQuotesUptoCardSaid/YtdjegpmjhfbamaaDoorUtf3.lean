/-
  Walk: utf's Quote.
-/
import Derived.Test.YtdjegpmjhfbamaaDoorUtf2
import Derived.Test.YtdjegpmjhfbamaaDoorUtfS
namespace Go.Proofs.YtdjegpmjhfbamaaDoor
open Go.RowKit Go.Proofs

theorem bld_iterAt {B b k pos pos' : Nat} {l : List UInt8} {s : ByteArray} {w : World} (h : Bld B b l w) (hk : w.heap[k]? = some (.stringIter s pos)) : Bld B b l (w.iterAt k s pos') := Lib.IsBuilderF.iterAt h hk pos'
theorem bld_alloc {B b : Nat} {l : List UInt8} {w : World} (h : Bld B b l w) (o : Obj) : Bld B b l (w.alloc o) := Lib.IsBuilderF.alloc h o
theorem hex_at (k : Nat) (h : k < 16) (hk : k < (⟨#[48, 49, 50, 51, 52, 53, 54, 55, 56, 57, 97, 98, 99, 100, 101, 102]⟩ : ByteArray).size) : ((⟨#[48, 49, 50, 51, 52, 53, 54, 55, 56, 57, 97, 98, 99, 100, 101, 102]⟩ : ByteArray)[k]'hk).toNat = (hexD k).toNat := by
  have key : ∀ k : Fin 16, ((⟨#[48, 49, 50, 51, 52, 53, 54, 55, 56, 57, 97, 98, 99, 100, 101, 102]⟩ : ByteArray)[k.1]'(k.2)).toNat = (hexD k.1).toNat := by decide
  exact key ⟨k, h⟩
theorem and15 (v : Nat) (h : v < 128) : bits .and .i32 (v : Int) 15 = ((v % 16 : Nat) : Int) := by
  have key : ∀ v : Fin 128, bits .and .i32 ((v.1 : Nat) : Int) 15 = ((v.1 % 16 : Nat) : Int) := by decide
  exact key ⟨v, h⟩
theorem short_some {v : Nat} {c : UInt8} (h : letterP v = some c) : shortP v = (c.toNat : Int) ∧ (c.toNat : Int) ≠ 0 := by
  unfold letterP at h
  split at h
  · injection h with h; subst h; rename_i k; subst k; exact ⟨rfl, by decide⟩
  split at h
  · injection h with h; subst h; rename_i k; subst k; exact ⟨rfl, by decide⟩
  split at h
  · injection h with h; subst h; rename_i k; subst k; exact ⟨rfl, by decide⟩
  split at h
  · injection h with h; subst h; rename_i k; subst k; exact ⟨rfl, by decide⟩
  split at h
  · injection h with h; subst h; rename_i k; subst k; exact ⟨rfl, by decide⟩
  split at h
  · injection h with h; subst h; rename_i k; subst k; exact ⟨rfl, by decide⟩
  split at h
  · injection h with h; subst h; rename_i k; subst k; exact ⟨rfl, by decide⟩
  · cases h
theorem short_none {v : Nat} (h : letterP v = none) : shortP v = 0 := by
  unfold letterP at h
  split at h
  · cases h
  split at h
  · cases h
  split at h
  · cases h
  split at h
  · cases h
  split at h
  · cases h
  split at h
  · cases h
  split at h
  · cases h
  unfold shortP
  rw [if_neg (by omega), if_neg (by omega), if_neg (by omega), if_neg (by omega), if_neg (by omega), if_neg (by omega)]

set_option maxRecDepth 100000 in
set_option maxHeartbeats 8000000 in
theorem quote_calls (s : ByteArray) (hs : s.size ≤ 17592186044416) (w : World) (hT : Tabs w) : Calls Tryd.prog 17 #[.string s] w fun e w' =>
    e = .returned (.tuple #[.string (if utf s = true then ⟨(quoteP s.data.toList).toArray⟩ else ⟨#[]⟩), .int .i64 (if utf s = true then 0 else 11)]) ∧ Below w.heap.size w w' := by
  obtain ⟨X, hX⟩ : ∃ X : ByteArray, X = (if utf s = true then ⟨(quoteP s.data.toList).toArray⟩ else ⟨#[]⟩) := ⟨_, rfl⟩
  obtain ⟨E, hE⟩ : ∃ E : Int, E = (if utf s = true then 0 else 11) := ⟨_, rfl⟩
  rw [← hX, ← hE]
  have hv := hid (valid_calls s w (by omega) hT)
  have hll : Hid (s.data.toList.length = s.size) := by show _ = _; simp
  have hval : Hid ((runesD s.data.toList).isSome = utf s) := runesD_valid _ _ rfl
  cases hU : utf s with
  | false =>
    rw [hU] at hv hX hE
    rw [if_neg (by simp)] at hX hE
    subst hX hE
    replace hU := hid hU
    go_enter Tryd.func17, Tryd.ntmps17
    go_wp2_with fail
    refine hv.out.mono ?_
    rintro e w1 ⟨rfl, hb1⟩
    go_wp2_with fail
    go_ret2
    exact ⟨rfl, hb1⟩
  | true =>
    rw [hU] at hv hX hE
    rw [if_pos rfl] at hX hE
    subst hE
    obtain ⟨rs, hrs⟩ : ∃ rs, runesD s.data.toList = some rs := by
      have := hval.out
      rw [hU] at this
      exact Option.isSome_iff_exists.1 this
    have hrl := runes_len hrs
    rw [hll.out] at hrl
    have hch := hid (runes_text hrs).2
    replace hX : Hid (X = ⟨((34 :: rs.flatMap qr) ++ [34]).toArray⟩) := by
      show _ = _
      rw [hX, ← (runes_text hrs).1, quote_text]
    replace hrs := hid hrs
    clear hU
    go_enter Tryd.func17, Tryd.ntmps17
    go_wp2_with fail
    refine hv.out.mono ?_
    rintro e w1 ⟨rfl, hb1⟩
    have hB0 := hid (bld_new (w := w1))
    have hba := hid (below_new w1 (.cells #[.pointer none, .slice none 0 0] 87))
    go_wp2_with fail
    refine (wbyte_calls w1.heap.size w1.heap.size [] 34 34 rfl _ hB0.out (by simp) hba.out.size).mono ?_
    rintro e w2 ⟨rfl, hB2, hb2, _⟩
    have hb2' : Below w1.heap.size w1 w2 := hba.out.trans hb2
    have hz2 : w1.heap.size < w2.heap.size := by have := hb2.size; have h := hba.out.size; rcases hB2 with h | h <;> exact h.lt
    go_wp2_with fail
    have hiter : (w2.iter s 0).heap[w2.heap.size]? = some (.stringIter s 0) := World.iter_heap w2 s 0
    have hbi : Below w1.heap.size w1 (w2.iter s 0) := hb2'.alloc hb2'.size _
    have hoi : Bld w1.heap.size w1.heap.size ([] ++ [34]) (w2.iter s 0) := bld_alloc hB2 _
    replace hiter := hid hiter
    replace hbi := hid hbi
    replace hoi := hid hoi
    clear hB2 hb2 hb2'
    generalize w2.heap.size = K at *
    generalize hbb : w1.heap.size = b at *
    replace hbb := hid hbb
    go_loopg [] s.size (fun g wr => ∃ (pos : Nat) (done rest : List Nat), g + pos = s.size ∧ runesD (s.data.toList.drop pos) = some rest ∧ done ++ rest = rs ∧ done.length ≤ pos ∧ Bld b b (34 :: done.flatMap qr) wr ∧ wr.heap[K]? = some (.stringIter s pos) ∧ Below b w1 wr)
    case atStart => exact ⟨0, [], rs, by omega, by simpa using hrs.out, rfl, by simp, hoi.out, hiter.out, hbi.out⟩
    case round =>
      obtain ⟨pos, done, rest, hg, hrest, hdr, hdl, hB, hit, hb⟩ := hrel
      replace hrest := hid hrest
      replace hdr := hid hdr
      have hKlt : K < wr.heap.size := (Array.getElem?_eq_some_iff.1 hit).1
      have hql := qrs_len done
      generalize hdq : done.flatMap qr = dq at *
      replace hdq := hid hdq
      by_cases hp : pos < s.size
      · have hne : s.data.toList.drop pos ≠ [] := by
          intro h
          have := congrArg List.length h
          rw [List.length_drop, hll.out] at this
          simp at this
          omega
        obtain ⟨v, sz, hS⟩ : ∃ v sz, stepD (s.data.toList.drop pos) = some (v, sz) := by
          cases hS : stepD (s.data.toList.drop pos) with
          | none => have := hrest.out; rw [runesD_bad hne hS] at this; cases this
          | some p => exact ⟨p.1, p.2, rfl⟩
        have hsz := stepD_some hS hne
        rw [List.length_drop, hll.out] at hsz
        have hdec := next_at (s := s) (i := pos) (by rw [nextS_step]; exact hS)
        have hnx : ∀ ty, (Instr.next (.pointer (some ⟨K, 0, none⟩)) true ty).run Tryd.prog wr = _ := fun ty => Lib.run_next_any_at wr K s pos ty hit hp
        have hBI := bld_iterAt (pos' := pos + sz) hB hit
        have hitI := Lib.iterAt_heap wr K s pos (pos + sz) hit
        have hbI := Lib.below_iterAt hb (k := K) (by omega) s (pos + sz)
        rw [hdec] at hnx
        obtain ⟨rest', hr1, hr2⟩ := Option.map_eq_some_iff.1 (show (runesD ((s.data.toList.drop pos).drop sz)).map (v :: ·) = some rest by rw [← runesD_ok hne hS]; exact hrest.out)
        rw [List.drop_drop] at hr1
        replace hr1 := hid hr1
        replace hr2 := hid hr2
        obtain ⟨wn, hwn⟩ : ∃ wn, wn = wr.iterAt K s (pos + sz) := ⟨_, rfl⟩
        simp only at hnx
        rw [← hwn] at hnx hBI hitI hbI
        have hszn : b ≤ wn.heap.size := by rw [hwn, Lib.iterAt_size]; omega
        replace hwn := hid hwn
        clear hdec hS hne hit hb hB
        have hend : Hid (∀ (w' : World) (z : List UInt8), z = (34 :: dq) ++ qr v → Bld b b z w' → Kept b wn w' → Below b wn w' →
            ∃ (pos' : Nat) (done' rest' : List Nat), (s.size - (pos + sz)) + pos' = s.size ∧ runesD (s.data.toList.drop pos') = some rest' ∧ done' ++ rest' = rs ∧ done'.length ≤ pos' ∧ Bld b b (34 :: done'.flatMap qr) w' ∧ w'.heap[K]? = some (.stringIter s pos') ∧ Below b w1 w') := by
          intro w' z hz h1 h2 h3
          refine ⟨pos + sz, done ++ [v], rest', by omega, hr1.out, by rw [← hdr.out, ← hr2.out]; simp, by simp; omega, ?_, h2.iter hitI (by omega), hbI.trans h3⟩
          rw [hz] at h1
          rw [List.flatMap_append, hdq.out]
          simpa using h1
        have hsh := hid (fun w => short_calls (v : Int) (by omega) (by omega) w)
        cases hlp : letterP v with
        | some c =>
          obtain ⟨e1, e2⟩ := short_some hlp
          rw [e1] at hsh
          have b1 : ((c.toNat : Int) != 0) = true := by simpa using e2
          have hq : Hid (qr v = [92, c]) := by show _ = _; unfold qr; rw [hlp]
          clear e1 e2 hlp
          go_wp2_with fail
          refine (hsh.out _).mono ?_
          rintro e w3 ⟨rfl, rfl⟩
          go_wp2_with fail
          refine (wbyte_calls b b _ 92 92 rfl _ hBI (by simp; omega) hszn).mono ?_
          rintro e w4 ⟨rfl, hB4, hb4, hk4⟩
          go_wp2_with fail
          refine (wbyte_calls b b _ c _ rfl _ hB4 (by simp; omega) (Nat.le_trans hszn hb4.size)).mono ?_
          rintro e w5 ⟨rfl, hB5, hb5, hk5⟩
          go_wp2_with fail
          go_roundg (s.size - (pos + sz))
          case measure => omega
          case rel => exact hend.out _ _ (by rw [hq.out]; simp) hB5 (hk4.trans hk5) (hb4.trans hb5)
        | none =>
          rw [short_none hlp] at hsh
          by_cases hct : v < 32 ∨ v = 127
          · have hq : Hid (qr v = [92, 117, 48, 48, hexD (v / 16), hexD (v % 16)]) := by show _ = _; unfold qr; rw [hlp]; simp only; rw [if_pos hct]
            clear hlp
            by_cases h32 : v < 32
            · have i32 : (v : Int) < 32 := by omega
              obtain ⟨m, hm⟩ : ∃ m, m = v % 16 := ⟨_, rfl⟩
              have hm16 : m < 16 := by omega
              have han := and15 v (by omega)
              rw [← hm] at han
              replace hm := hid hm
              clear hct
              go_wp2_with fail
              refine (hsh.out _).mono ?_
              rintro e w3 ⟨rfl, rfl⟩
              go_wp2_with fail
              refine (wstring_calls b b _ ⟨#[92, 117, 48, 48]⟩ _ hBI (by rw [show (⟨#[92, 117, 48, 48]⟩ : ByteArray).size = 4 from rfl]; simp; omega) hszn).mono ?_
              rintro e w4 ⟨rfl, hB4, hb4, hk4⟩
              go_wp2_with fail
              refine (wbyte_calls b b _ (hexD (v / 16)) _ (by rw [hex_at _ (by omega)]) _ hB4 (by simp; omega) (Nat.le_trans hszn hb4.size)).mono ?_
              rintro e w5 ⟨rfl, hB5, hb5, hk5⟩
              go_wp2_with fail
              refine (wbyte_calls b b _ (hexD m) _ (by rw [hex_at _ (by omega)]) _ hB5 (by simp; omega) (Nat.le_trans hszn (Nat.le_trans hb4.size hb5.size))).mono ?_
              rintro e w6 ⟨rfl, hB6, hb6, hk6⟩
              go_wp2_with fail
              go_roundg (s.size - (pos + sz))
              case measure => omega
              case rel => exact hend.out _ _ (by rw [hq.out, ← hm.out]; simp) hB6 ((hk4.trans hk5).trans hk6) ((hb4.trans hb5).trans hb6)
            · obtain rfl : v = 127 := by omega
              have han : bits .and .i32 (127 : Int) 15 = 15 := by decide
              clear hct h32
              go_wp2_with fail
              refine (hsh.out _).mono ?_
              rintro e w3 ⟨rfl, rfl⟩
              go_wp2_with fail
              refine (wstring_calls b b _ ⟨#[92, 117, 48, 48]⟩ _ hBI (by rw [show (⟨#[92, 117, 48, 48]⟩ : ByteArray).size = 4 from rfl]; simp; omega) hszn).mono ?_
              rintro e w4 ⟨rfl, hB4, hb4, hk4⟩
              go_wp2_with fail
              refine (wbyte_calls b b _ (hexD (127 / 16)) _ (by rw [hex_at _ (by omega)]) _ hB4 (by simp; omega) (Nat.le_trans hszn hb4.size)).mono ?_
              rintro e w5 ⟨rfl, hB5, hb5, hk5⟩
              go_wp2_with fail
              refine (wbyte_calls b b _ (hexD (127 % 16)) _ (by rw [hex_at _ (by omega)]) _ hB5 (by simp; omega) (Nat.le_trans hszn (Nat.le_trans hb4.size hb5.size))).mono ?_
              rintro e w6 ⟨rfl, hB6, hb6, hk6⟩
              go_wp2_with fail
              go_roundg (s.size - (pos + sz))
              case measure => omega
              case rel => exact hend.out _ _ (by rw [hq.out]; simp) hB6 ((hk4.trans hk5).trans hk6) ((hb4.trans hb5).trans hb6)
          · have hq : Hid (qr v = Lib.encodeRune v) := by show _ = _; unfold qr; rw [hlp]; simp only; rw [if_neg hct]
            have b1 : ¬ (v : Int) < 32 := by omega
            have b2 : ((v : Int) == 127) = false := by simpa using (by omega : ¬ (v : Int) = 127)
            clear hlp hct
            go_wp2_with fail
            refine (hsh.out _).mono ?_
            rintro e w3 ⟨rfl, rfl⟩
            go_wp2_with fail
            refine (wrune_calls b b _ (v : Int) (by omega) (by omega) _ hBI (by simp; omega) hszn).mono ?_
            rintro e w4 ⟨rfl, hB4, hb4, hk4⟩
            go_wp2_with fail
            go_roundg (s.size - (pos + sz))
            case measure => omega
            case rel => exact hend.out _ _ (by rw [hq.out]) hB4 hk4 hb4
      · have hnil : s.data.toList.drop pos = [] := List.drop_eq_nil_of_le (by rw [hll.out]; omega)
        have hrs' : rs = done := by
          have := hrest.out
          rw [hnil, runesD_nil] at this
          rw [← hdr.out, ← Option.some.inj this]; simp
        have hnx : ∀ ty, (Instr.next (.pointer (some ⟨K, 0, none⟩)) true ty).run Tryd.prog wr = _ := fun ty => Lib.run_next_end_at wr K s pos ty hit hp
        clear hnil
        rw [hrs', hdq.out] at hX
        clear hrs'
        go_wp2_with fail
        refine (wbyte_calls b b _ 34 34 rfl _ hB (by simp; omega) (by omega)).mono ?_
        rintro e w4 ⟨rfl, hB4, hb4, hk4⟩
        go_wp2_with fail
        refine (bstring_calls b b _ _ hB4 (by have := hb4.size; omega)).mono ?_
        rintro e w5 ⟨rfl, hb5⟩
        go_wp2_with fail
        go_ret2
        exact ⟨by rw [hX.out]; rfl, hb1.step (by rw [hbb.out]; exact hb.trans (hb4.trans hb5))⟩
end Go.Proofs.YtdjegpmjhfbamaaDoor
