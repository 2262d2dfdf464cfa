/-
  Walks: the reference's One, Text (characters).
-/
import Derived.Test.YtdjegpmjhfbamaaDoorUtf5
namespace Go.Proofs.YtdjegpmjhfbamaaDoor
open Go.RowKit Go.Proofs

theorem bcells_rune (v : Int) : bcells (Lib.encodeRune v) = (Lib.encodeRuneZ v).map (Value.int .u8) := Lib.byteCells_encodeRune v
theorem made_rune {w : World} {v : Int} {cs : Array Value} {n : Nat} (hc : cs = ((Lib.encodeRuneZ v).map (Value.int .u8)).toArray) (hn : n = (Lib.encodeRuneZ v).length) :
    Made w (w.alloc (.cells cs 5)) (Lib.encodeRune v) (.slice (some ⟨w.heap.size, 0, none⟩) n n) := by
  subst hn
  rw [← bcells_rune] at hc
  have := buf_new (e := 5) (Lib.encodeRune v) (Below.refl w.heap.size w) (Nat.le_refl _) hc (by rw [enc_len]; have := Lib.encodeRuneZ_length v; unfold maxLen; omega)
  rw [enc_len] at this
  exact ⟨_, _, by rw [enc_len], this⟩
def OneTold (v : Int) (w : World) (e : Ending) (w' : World) : Prop :=
  ∃ x, e = .returned (.tuple #[x, .bool (Lib.validRune v)]) ∧ (Lib.validRune v = true → Made w w' (Lib.encodeRune v) x) ∧ (Lib.validRune v = false → x = .slice none 0 0 ∧ w = w')

set_option maxRecDepth 100000 in
set_option maxHeartbeats 8000000 in
theorem one_calls (v : Int) (h0 : -9223372036854775808 ≤ v) (h1 : v ≤ 9223372036854775807) (w : World) : Calls Tryd.prog 76 #[.int .i64 v] w (OneTold v w) := by
  cases hv : Lib.validRune v with
  | false =>
    have hbad : v < 0 ∨ 1114111 < v ∨ (0 ≤ v ∧ 55296 ≤ v ∧ v ≤ 57343) := by
      unfold Lib.validRune at hv
      rw [decide_eq_false_iff_not] at hv
      omega
    have hend : Hid (OneTold v w (.returned (.tuple #[.slice none 0 0, .bool false])) w) := ⟨_, by rw [hv], fun h => (by rw [hv] at h; cases h), fun _ => ⟨rfl, rfl⟩⟩
    clear hv
    rcases hbad with hb | hb | ⟨hb0, hb1, hb2⟩
    all_goals
      go_enter Tryd.func76, Tryd.ntmps76
      go_wp2_with fail
      go_ret2
      exact hend.out
  | true =>
    have hgood : 0 ≤ v ∧ v ≤ 1114111 ∧ (v < 55296 ∨ 57343 < v) := by
      unfold Lib.validRune at hv
      rw [decide_eq_true_eq] at hv
      omega
    obtain ⟨g0, g1, g2⟩ := hgood
    have hend : Hid (∀ cs n, cs = ((Lib.encodeRuneZ v).map (Value.int .u8)).toArray → n = (Lib.encodeRuneZ v).length → OneTold v w (.returned (.tuple #[.slice (some ⟨w.heap.size, 0, none⟩) n n, .bool true])) (w.alloc (.cells cs 5))) :=
      fun cs n hc hn => ⟨_, by rw [hv], fun _ => made_rune hc hn, fun h => by rw [hv] at h; cases h⟩
    clear hv
    by_cases c1 : v < 128
    · clear g2
      go_enter Tryd.func76, Tryd.ntmps76
      go_wp2_with fail
      go_ret2
      exact hend.out _ _ (by rw [Lib.encodeRuneZ_one (by omega) (by omega)]; rfl) (by rw [Lib.encodeRuneZ_one (by omega) (by omega)]; rfl)
    by_cases c2 : v < 2048
    · clear g2
      go_enter Tryd.func76, Tryd.ntmps76
      go_wp2_with fail
      go_ret2
      exact hend.out _ _ (by rw [Lib.encodeRuneZ_two (by omega) (by omega)]; rfl) (by rw [Lib.encodeRuneZ_two (by omega) (by omega)]; rfl)
    by_cases c3 : v < 65536
    · rcases g2 with g2 | g2
      all_goals
        go_enter Tryd.func76, Tryd.ntmps76
        go_wp2_with fail
        go_ret2
        exact hend.out _ _ (by rw [Lib.encodeRuneZ_three (by omega)]; rfl) (by rw [Lib.encodeRuneZ_three (by omega)]; rfl)
    · clear g2
      have g2 : 57343 < v := by omega
      go_enter Tryd.func76, Tryd.ntmps76
      go_wp2_with fail
      go_ret2
      exact hend.out _ _ (by rw [Lib.encodeRuneZ_four (by omega) (by omega)]; rfl) (by rw [Lib.encodeRuneZ_four (by omega) (by omega)]; rfl)

set_option maxRecDepth 100000 in
set_option maxHeartbeats 4000000 in
theorem rtext_calls (rs : List Int) (v : Value) (w : World) (hv : RunesAt w rs v) (hn : rs.length ≤ 34359738368) :
    Calls Tryd.prog 28 #[v] w fun e w' => e = .returned (.tuple #[.string (if okR rs = true then ⟨(textI rs).toArray⟩ else ⟨#[]⟩), .bool (okR rs)]) ∧ Below w.heap.size w w' := by
  obtain ⟨S, hS⟩ : ∃ S : ByteArray, S = (if okR rs = true then ⟨(textI rs).toArray⟩ else ⟨#[]⟩) := ⟨_, rfl⟩
  obtain ⟨E, hE⟩ : ∃ E : Bool, E = okR rs := ⟨_, rfl⟩
  rw [← hS, ← hE]
  replace hS := hid hS
  replace hE := hid hE
  obtain ⟨a, cap, rfl, hc1, hc2, hrg, hcs⟩ := hv
  replace hcs := hid hcs
  replace hrg := hid hrg
  obtain ⟨i0, hP⟩ := byte8
  go_enter Tryd.func28, Tryd.ntmps28
  go_wp2_with fail
  go_loopg [4, 5] rs.length (fun g o i wr => ∃ j : Nat, g + j = rs.length ∧ i = .int .i64 j ∧ Buf w.heap.size 5 w wr (textI (rs.take j)) o ∧ okR (rs.take j) = true)
  case atStart => exact ⟨0, by omega, rfl, Buf.nil (Below.refl _ _) (Nat.le_refl _), rfl⟩
  case round =>
    obtain ⟨j, hj, rfl, hB, hok⟩ := hrel
    replace hok := hid hok
    replace hB := hid hB
    by_cases hlt : j < rs.length
    · obtain ⟨x, hx⟩ : ∃ x, rs[j]? = some x := ⟨_, List.getElem?_eq_getElem hlt⟩
      have hxr := hrg.out x (List.mem_of_getElem? hx)
      obtain ⟨b, off, rfl, hbl, hcell⟩ : ∃ b off, a = some ⟨b, off, none⟩ ∧ b < w.heap.size ∧ ∀ (j : Nat) (x : Int), rs[j]? = some x → w.cell? ⟨b, off + j, none⟩ = some (.int .i32 x) := by
        rcases hcs.out with h | h
        · subst h; simp at hlt
        · exact h
      have c0 := (hB.out.below.cell (p := ⟨b, off + j, none⟩) hbl).trans (hcell j x hx)
      clear hcell
      have hsn := hid (textI_snoc hx)
      have htl := textI_le (rs.take j)
      have hokn : Hid (okR (rs.take (j + 1)) = Lib.validRune x) := by
        show _ = _
        rw [take_succ_of hx]
        unfold okR
        rw [List.all_append, show (rs.take j).all Lib.validRune = true from hok.out]
        simp
      have hbad : Hid (Lib.validRune x = false → okR rs = false) := fun h => by
        unfold okR
        exact all_no hx h
      rw [List.length_take] at htl
      clear hx
      have h1c := hid (fun w => one_calls x (by omega) (by omega) w)
      cases hval : Lib.validRune x with
      | false =>
        have hno := hid (hbad.out hval)
        obtain rfl : S = ⟨#[]⟩ := by rw [hS.out, hno.out]; rfl
        obtain rfl : E = false := by rw [hE.out, hno.out]
        replace hval := hid hval
        go_wp2_with fail
        refine (h1c.out _).mono ?_
        rintro e w1 ⟨y, rfl, _, hx0⟩
        rw [hval.out]
        obtain ⟨rfl, rfl⟩ := hx0 hval.out
        go_wp2_with fail
        go_ret2
        exact ⟨rfl, hB.out.below⟩
      | true =>
        replace hval := hid hval
        have hel := Lib.encodeRuneZ_length x
        rw [← enc_len] at hel
        generalize textI (rs.take j) = done at *
        go_wp2_with fail
        refine (h1c.out _).mono ?_
        rintro e w1 ⟨y, rfl, hx1, _⟩
        rw [hval.out]
        obtain ⟨g4, c4, rfl, hm4⟩ := hx1 hval.out
        clear hx1
        replace hm4 := hid hm4
        go_wp2_with (first
          | (at_builtin; (refine wpList_buf_made rfl _ _ rfl hP rfl (hB.out.later hm4.out.below) (Lib.encodeRune x) g4 _ _ rfl rfl hm4.out.src (by omega) ?_); intro v5 w5 hb5; replace hb5 := hid hb5))
        go_roundg (rs.length - (j + 1))
        case measure => omega
        case rel => exact ⟨j + 1, by omega, by go_num, by rw [hsn.out]; exact hb5.out, by rw [hokn.out]; exact hval.out⟩
    · have hall : Hid (rs.take j = rs) := List.take_of_length_le (by omega)
      rw [hall.out] at hB hok
      obtain rfl : S = ⟨(textI rs).toArray⟩ := by rw [hS.out, hok.out]; rfl
      obtain rfl : E = true := by rw [hE.out, hok.out]
      have hcv := conv_buf (P := Tryd.prog) Tryd.underlying45 Tryd.underlying5 Tryd.underlying9 hB.out
      go_wp2_with fail
      go_ret2
      exact ⟨rfl, hB.out.below⟩
end Go.Proofs.YtdjegpmjhfbamaaDoor
