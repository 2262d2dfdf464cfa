/-
  Walks: utf's short, long, Runes, Count, Text, Compare.
-/
import Derived.Test.YtdjegpmjhfbamaaDoorUtfR
import Derived.Test.YtdjegpmjhfbamaaDoorRef7
import Derived.Test.YtdjegpmjhfbamaaDoorBld
import Derived.Lib.TrimUEq
import Derived.OwnWalk
import Derived.Handy
namespace Go.Proofs.YtdjegpmjhfbamaaDoor
open Go.RowKit Go.Proofs

/-- The letter of a character that has one. -/
def shortP (v : Int) : Int := if v = 34 ∨ v = 92 then v else if v = 8 then 98 else if v = 12 then 102 else if v = 10 then 110 else if v = 13 then 114 else if v = 9 then 116 else 0
/-- The character of such a letter. -/
def longP (c : Nat) : Option Nat := if c = 34 ∨ c = 92 ∨ c = 47 then some c else if c = 98 then some 8 else if c = 102 then some 12 else if c = 110 then some 10 else if c = 114 then some 13 else if c = 116 then some 9 else none

set_option maxHeartbeats 2000000 in
theorem short_calls (v : Int) (h0 : 0 ≤ v) (h1 : v ≤ 1114111) (w : World) : Calls Tryd.prog 62 #[.int .i32 v] w fun e w' => e = .returned (.int .u8 (shortP v)) ∧ w = w' := by
  obtain ⟨R, hR⟩ : ∃ R, R = shortP v := ⟨_, rfl⟩
  rw [← hR]
  unfold shortP at hR
  replace hR := hid hR
  by_cases c : v = 34 ∨ v = 92 ∨ v = 8 ∨ v = 12 ∨ v = 10 ∨ v = 13 ∨ v = 9
  · rcases c with rfl | rfl | rfl | rfl | rfl | rfl | rfl
    all_goals
      go_enter Tryd.func62, Tryd.ntmps62
      go_wp2_with fail
      go_ret
      exact ⟨by rw [hR.out]; rfl, rfl⟩
  · have b1 : (v == 34) = false := by simpa using (by omega : ¬ v = 34)
    have b2 : (v == 92) = false := by simpa using (by omega : ¬ v = 92)
    have b3 : (v == 8) = false := by simpa using (by omega : ¬ v = 8)
    have b4 : (v == 12) = false := by simpa using (by omega : ¬ v = 12)
    have b5 : (v == 10) = false := by simpa using (by omega : ¬ v = 10)
    have b6 : (v == 13) = false := by simpa using (by omega : ¬ v = 13)
    have b7 : (v == 9) = false := by simpa using (by omega : ¬ v = 9)
    replace hR : Hid (R = 0) := by
      show _ = _
      rw [hR.out, if_neg (by omega), if_neg (by omega), if_neg (by omega), if_neg (by omega), if_neg (by omega), if_neg (by omega)]
    clear c
    go_enter Tryd.func62, Tryd.ntmps62
    go_wp2_with fail
    go_ret
    exact ⟨by rw [hR.out]; rfl, rfl⟩

set_option maxHeartbeats 2000000 in
theorem ulong_calls (c : Nat) (h : c < 256) (w : World) : Calls Tryd.prog 67 #[.int .u8 c] w fun e w' => e = .returned (.tuple #[.int .u8 ((longP c).getD 0 : Nat), .bool (longP c).isSome]) ∧ w = w' := by
  obtain ⟨R, hR⟩ : ∃ R, R = longP c := ⟨_, rfl⟩
  rw [← hR]
  unfold longP at hR
  replace hR := hid hR
  by_cases k : c = 34 ∨ c = 92 ∨ c = 47 ∨ c = 98 ∨ c = 102 ∨ c = 110 ∨ c = 114 ∨ c = 116
  · rcases k with rfl | rfl | rfl | rfl | rfl | rfl | rfl | rfl
    all_goals
      go_enter Tryd.func67, Tryd.ntmps67
      go_wp2_with fail
      go_returns
      exact ⟨by rw [hR.out]; rfl, rfl⟩
  · have b1 : ((c : Int) == 34) = false := by simpa using (by omega : ¬ (c : Int) = 34)
    have b2 : ((c : Int) == 92) = false := by simpa using (by omega : ¬ (c : Int) = 92)
    have b3 : ((c : Int) == 47) = false := by simpa using (by omega : ¬ (c : Int) = 47)
    have b4 : ((c : Int) == 98) = false := by simpa using (by omega : ¬ (c : Int) = 98)
    have b5 : ((c : Int) == 102) = false := by simpa using (by omega : ¬ (c : Int) = 102)
    have b6 : ((c : Int) == 110) = false := by simpa using (by omega : ¬ (c : Int) = 110)
    have b7 : ((c : Int) == 114) = false := by simpa using (by omega : ¬ (c : Int) = 114)
    have b8 : ((c : Int) == 116) = false := by simpa using (by omega : ¬ (c : Int) = 116)
    replace hR : Hid (R = none) := by
      show _ = _
      rw [hR.out, if_neg (by omega), if_neg (by omega), if_neg (by omega), if_neg (by omega), if_neg (by omega), if_neg (by omega)]
    clear k
    go_enter Tryd.func67, Tryd.ntmps67
    go_wp2_with fail
    go_returns
    exact ⟨by rw [hR.out]; rfl, rfl⟩

/-- Characters that lie in memory. -/
def RunesAt (w : World) (rs : List Int) (v : Value) : Prop :=
  ∃ a cap, v = .slice a rs.length cap ∧ rs.length ≤ cap ∧ cap ≤ 9223372036854775807 ∧ (∀ x ∈ rs, -2147483648 ≤ x ∧ x ≤ 2147483647) ∧
    (rs = [] ∨ ∃ b off, a = some ⟨b, off, none⟩ ∧ b < w.heap.size ∧ ∀ (j : Nat) (x : Int), rs[j]? = some x → w.cell? ⟨b, off + j, none⟩ = some (.int .i32 x))
theorem RunesAt.later {w w' : World} {rs : List Int} {v : Value} (h : RunesAt w rs v) (hb : Below w.heap.size w w') : RunesAt w' rs v := by
  obtain ⟨a, cap, h1, h2, h3, h4, h5⟩ := h
  refine ⟨a, cap, h1, h2, h3, h4, ?_⟩
  rcases h5 with h5 | ⟨b, off, e, hl, hc⟩
  · exact .inl h5
  · exact .inr ⟨b, off, e, Nat.lt_of_lt_of_le hl hb.size, fun j x hx => (hb.cell (p := ⟨b, off + j, none⟩) hl).trans (hc j x hx)⟩
/-- Are all characters? -/
def okR (rs : List Int) : Bool := rs.all Lib.validRune
def textI (rs : List Int) : List UInt8 := rs.flatMap Lib.encodeRune
theorem textI_le (rs : List Int) : (textI rs).length ≤ 4 * rs.length := by
  induction rs with
  | nil => simp [textI]
  | cons v r ih =>
    have h := Lib.encodeRuneZ_length v
    have : textI (v :: r) = Lib.encodeRune v ++ textI r := by simp [textI]
    rw [this, List.length_append, enc_len, List.length_cons]
    omega
theorem textI_snoc {rs : List Int} {j : Nat} {x : Int} (h : rs[j]? = some x) : textI (rs.take (j + 1)) = textI (rs.take j) ++ Lib.encodeRune x := by
  rw [take_succ_of h]; simp [textI]

set_option maxRecDepth 100000 in
set_option maxHeartbeats 4000000 in
theorem utext_calls (rs : List Int) (v : Value) (w : World) (hv : RunesAt w rs v) (hn : rs.length ≤ 34359738368) :
    Calls Tryd.prog 26 #[v] w fun e w' => e = .returned (.tuple #[.string (if okR rs = true then ⟨(textI rs).toArray⟩ else ⟨#[]⟩), .int .i64 (if okR rs = true then 0 else 11)]) ∧ Below w.heap.size w w' := by
  obtain ⟨S, hS⟩ : ∃ S : ByteArray, S = (if okR rs = true then ⟨(textI rs).toArray⟩ else ⟨#[]⟩) := ⟨_, rfl⟩
  obtain ⟨E, hE⟩ : ∃ E : Int, E = (if okR rs = true then 0 else 11) := ⟨_, rfl⟩
  rw [← hS, ← hE]
  replace hS := hid hS
  replace hE := hid hE
  obtain ⟨a, cap, rfl, hc1, hc2, hrg, hcs⟩ := hv
  replace hcs := hid hcs
  replace hrg := hid hrg
  have hW : Hid (Below w.heap.size w (w.alloc (.cells #[.pointer none, .slice none 0 0] 87))) := below_new _ _
  have hB0 := hid (bld_new (w := w))
  go_enter Tryd.func26, Tryd.ntmps26
  go_wp2_with fail
  go_loopg [9] rs.length (fun g i wr => ∃ j : Nat, g + j = rs.length ∧ i = .int .i64 j ∧ Bld w.heap.size w.heap.size (textI (rs.take j)) wr ∧ Below w.heap.size w wr ∧ okR (rs.take j) = true)
  case atStart => exact ⟨0, by omega, rfl, by simpa [textI] using hB0.out, hW.out, rfl⟩
  case round =>
    obtain ⟨j, hj, rfl, hB, hb, hok⟩ := hrel
    replace hok := hid hok
    have hsz := hb.size
    by_cases hlt : j < rs.length
    · obtain ⟨x, hx⟩ : ∃ x, rs[j]? = some x := ⟨_, List.getElem?_eq_getElem hlt⟩
      have hxr := hrg.out x (List.mem_of_getElem? hx)
      obtain ⟨b, off, rfl, hbl, hcell⟩ : ∃ b off, a = some ⟨b, off, none⟩ ∧ b < w.heap.size ∧ ∀ (j : Nat) (x : Int), rs[j]? = some x → w.cell? ⟨b, off + j, none⟩ = some (.int .i32 x) := by
        rcases hcs.out with h | h
        · subst h; simp at hlt
        · exact h
      have c0 := (hb.cell (p := ⟨b, off + j, none⟩) hbl).trans (hcell j x hx)
      clear hcell
      have hsn := hid (textI_snoc hx)
      have htl := textI_le (rs.take j)
      have hokn : Hid (okR (rs.take (j + 1)) = Lib.validRune x) := by
        show _ = _
        rw [take_succ_of hx]
        unfold okR
        rw [List.all_append, show (rs.take j).all Lib.validRune = true from hok.out]
        simp
      have hbad : Hid (Lib.validRune x = false → okR rs = false) := fun h => by
        unfold okR
        exact all_no hx h
      rw [List.length_take] at htl
      clear hx
      have hvr := hid (fun w => Tryd.utf8_ValidRune x w)
      cases hval : Lib.validRune x with
      | false =>
        rw [hval] at hvr
        have hno := hid (hbad.out hval)
        obtain rfl : S = ⟨#[]⟩ := by rw [hS.out, hno.out]; rfl
        obtain rfl : E = 11 := by rw [hE.out, hno.out]; rfl
        clear hval
        go_wp2_with fail
        refine (hvr.out _).mono ?_
        rintro e w1 ⟨rfl, rfl⟩
        go_wp2_with fail
        go_ret2
        exact ⟨rfl, hb⟩
      | true =>
        rw [hval] at hvr hokn
        clear hval
        go_wp2_with fail
        refine (hvr.out _).mono ?_
        rintro e w1 ⟨rfl, rfl⟩
        go_wp2_with fail
        refine (wrune_calls w.heap.size w.heap.size _ x (by omega) (by omega) _ hB (by omega) hsz).mono ?_
        rintro e w2 ⟨rfl, hB2, hb2, _⟩
        go_wp2_with fail
        go_roundg (rs.length - (j + 1))
        case measure => omega
        case rel => exact ⟨j + 1, by omega, by go_num, by rw [hsn.out]; exact hB2, hb.trans hb2, hokn.out⟩
    · have hall : Hid (rs.take j = rs) := List.take_of_length_le (by omega)
      rw [hall.out] at hB hok
      obtain rfl : S = ⟨(textI rs).toArray⟩ := by rw [hS.out, hok.out]; rfl
      obtain rfl : E = 0 := by rw [hE.out, hok.out]; rfl
      go_wp2_with fail
      refine (bstring_calls w.heap.size w.heap.size _ _ hB hsz).mono ?_
      rintro e w2 ⟨rfl, hb2⟩
      go_wp2_with fail
      go_ret2
      exact ⟨rfl, hb.trans hb2⟩
end Go.Proofs.YtdjegpmjhfbamaaDoor
