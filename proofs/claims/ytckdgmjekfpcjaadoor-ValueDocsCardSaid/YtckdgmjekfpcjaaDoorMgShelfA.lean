/-
  DERIVED: THE SHELF's CONTRACTS AT THIS DUMP, IN PLAIN WORDS (tools/lay-plain.mjs out of 'TrydShelf.lean', which tools/lay-shelf.mjs wrote): THE SAME DECLARATIONS UNDER THE SAME NAMES: 'import', 'namespace', 'open', 'def', 'theorem' AND NOTHING ELSE: no command of the shelf's: FOR A HAND-IN. Each laying: the table of numbers ('.._ren') and one theorem, a field a fact of the dump's own or the kernel's comparison; each contract: ONE APPLICATION.
  Walks: utf.Valid, value.spelled, few: where the tables of unicode/utf8 lie as their text lays them.
  Walks: value.digits, Turned.
-/
import Derived.Shelf.Small.Strs
import Derived.Shelf.Unicode.ValidAny
import Derived.Test.YtckdgmjekfpcjaaDoorProg
import Derived.Test.YtckdgmjekfpcjaaDoorMgVal1
import Derived.Outline
import Derived.Handy
import Derived.Deep.LoopGhost
import Derived.WalkLawsBesides
import Derived.Test.YtckdgmjekfpcjaaDoorMgPlain
import Derived.Lib.Zigzag
namespace Go.Proofs
open Go.Shelf
def Tryd.lays213_ren : Go.Shelf.Ren := ⟨fun | 213 => 27 | 265 => 41 | n => n, fun | 9 => 9 | 3 => 3 | n => n, fun | n => n⟩
theorem Tryd.lays213 : Go.Proofs.Lays.n213 Tryd.prog Tryd.lays213_ren := {
  mixed := by kernel_rfl
  f213 := Tryd.func27.trans (congrArg some (by kernel_rfl))
  f265 := Tryd.func41.trans (congrArg some (by kernel_rfl))
  t3 := Tryd.underlying3
  a3 := Tryd.isAgg3
  z3 := Tryd.sizeOf3
  v3 := Tryd.zeroValue3
  t9 := Tryd.underlying9
  a9 := Tryd.isAgg9
  z9 := Tryd.sizeOf9
  v9 := Tryd.zeroValue9 }
open Go.RowKit in
/-- internal/bytealg.CompareString (what strings.Compare calls): IT RETURNS 'Lib.compareBytes a b'; the world is as it was. (LAID: no walk: one application.) -/
theorem Tryd.bytealg_CompareString (a b : ByteArray) (w : World) :
    Calls Tryd.prog 27 #[.string a, .string b] w fun e w' => e = .returned (.int .i64 (Lib.compareBytes a.data.toList b.data.toList)) ∧ w' = w := Any.bytealg_CompareString Tryd.lays213 a b w
def Tryd.lays106_ren : Go.Shelf.Ren := ⟨fun | 106 => 18 | 213 => 27 | 265 => 41 | n => n, fun | 9 => 9 | 3 => 3 | n => n, fun | n => n⟩
theorem Tryd.lays106 : Go.Proofs.Lays.n106 Tryd.prog Tryd.lays106_ren := {
  mixed := by kernel_rfl
  f106 := Tryd.func18.trans (congrArg some (by kernel_rfl))
  f213 := Tryd.func27.trans (congrArg some (by kernel_rfl))
  f265 := Tryd.func41.trans (congrArg some (by kernel_rfl))
  t3 := Tryd.underlying3
  a3 := Tryd.isAgg3
  z3 := Tryd.sizeOf3
  v3 := Tryd.zeroValue3
  t9 := Tryd.underlying9
  a9 := Tryd.isAgg9
  z9 := Tryd.sizeOf9
  v9 := Tryd.zeroValue9 }
open Go.RowKit in
/-- strings.Compare: "Compare returns an integer comparing two strings lexicographically. The result will be 0 if a == b, -1 if a < b, and +1 if a > b.": IT RETURNS 'Lib.compareBytes a b'; the world is as it was. (LAID: no walk: one application.) -/
theorem Tryd.strings_Compare (a b : ByteArray) (w : World) :
    Calls Tryd.prog 18 #[.string a, .string b] w fun e w' => e = .returned (.int .i64 (Lib.compareBytes a.data.toList b.data.toList)) ∧ w' = w := Any.strings_Compare Tryd.lays106 a b w
def Tryd.lays196_ren : Go.Shelf.Ren := ⟨fun | 196 => 49 | 259 => 52 | n => n, fun | 9 => 9 | 4 => 4 | 3 => 3 | 5 => 5 | 12 => 12 | 119 => 76 | 0 => 0 | 46 => 70 | 139 => 79 | 138 => 78 | 53 => 58 | n => n, fun | 3 => 1 | 4 => 2 | n => n⟩
theorem Tryd.lays196 : Go.Proofs.Lays.n196 Tryd.prog Tryd.lays196_ren := {
  mixed := by kernel_rfl
  f196 := Tryd.func49.trans (congrArg some (by kernel_rfl))
  f259 := Tryd.func52.trans (congrArg some (by kernel_rfl))
  t0 := Tryd.underlying0
  a0 := Tryd.isAgg0
  z0 := Tryd.sizeOf0
  v0 := Tryd.zeroValue0
  t3 := Tryd.underlying3
  a3 := Tryd.isAgg3
  z3 := Tryd.sizeOf3
  v3 := Tryd.zeroValue3
  t4 := Tryd.underlying4
  a4 := Tryd.isAgg4
  z4 := Tryd.sizeOf4
  v4 := Tryd.zeroValue4
  t5 := Tryd.underlying5
  a5 := Tryd.isAgg5
  z5 := Tryd.sizeOf5
  v5 := Tryd.zeroValue5
  t9 := Tryd.underlying9
  a9 := Tryd.isAgg9
  z9 := Tryd.sizeOf9
  v9 := Tryd.zeroValue9
  t12 := Tryd.underlying12
  a12 := Tryd.isAgg12
  z12 := Tryd.sizeOf12
  v12 := Tryd.zeroValue12
  t46 := Tryd.underlying70
  a46 := Tryd.isAgg70
  z46 := Tryd.sizeOf70
  v46 := Tryd.zeroValue70
  t53 := Tryd.underlying58
  a53 := Tryd.isAgg58
  z53 := Tryd.sizeOf58
  v53 := Tryd.zeroValue58
  t119 := Tryd.underlying76
  a119 := Tryd.isAgg76
  z119 := Tryd.sizeOf76
  t138 := Tryd.underlying78
  a138 := Tryd.isAgg78
  z138 := Tryd.sizeOf78
  v138 := Tryd.zeroValue78
  t139 := Tryd.underlying79
  a139 := Tryd.isAgg79
  z139 := Tryd.sizeOf79
  v139 := Tryd.zeroValue79
  g3 := by kernel_rfl
  g4 := by kernel_rfl }
open Go.RowKit Go.Lib in
/-- unicode/utf8.ValidString at every string. -/
theorem Tryd.utf8_ValidString (s : ByteArray) (w : World) (hs : s.size ≤ 9223372036854775807) (hT : Lib.Utf8Tabs 1 2 w) :
    Calls Tryd.prog 49 #[.string s] w fun e w' => e = .returned (.bool (Lib.validD s.data.toList)) ∧ Below w.heap.size w w' := Any.utf8_ValidString Tryd.lays196 s w hs hT
end Go.Proofs

namespace Go.Proofs.YtckdgmjekfpcjaaDoor
open Go.RowKit Go.Proofs

/-- The tables of unicode/utf8 lie as they are laid. -/
def Tabs (w : World) : Prop := Lib.Utf8Tabs 1 2 w
theorem Tabs.stays : Stays Tabs := fun _ _ h hb => Utf8Tabs_below h hb

theorem valid_calls (s : ByteArray) (w : World) (hs : s.size ≤ 140737488355328) (hT : Tabs w) :
    Calls Tryd.prog 42 #[.string s] w fun e w' => e = .returned (.bool (utf s)) ∧ Below w.heap.size w w' := by
  have hc := Tryd.utf8_ValidString s w (by omega) hT
  unfold utf
  generalize Lib.validD s.data.toList = R at *
  clear hT
  go_enter Tryd.func42, Tryd.ntmps42
  go_wp2_with fail
  refine hc.mono ?_
  rintro e w1 ⟨rfl, hb⟩
  go_wp2_with fail
  go_ret
  exact ⟨rfl, hb⟩

theorem spelled1_calls : TellsF Tabs 44 (fun nm => !utf nm) := by
  intro nm V w cs hT hn hV
  obtain ⟨k, n, s, l, fn, fv⟩ := V
  obtain ⟨la, lc, fa, fc, rfl, _⟩ := hV.inv
  have hc := valid_calls nm _ hn (Tabs.stays w _ hT (below_new w (.cells #[.string nm, .int .i64 k, .int .i64 n, .string s, .slice la l.length lc, .slice fa fv.length fc] 33)))
  show Calls _ _ _ _ fun e w' => e = .returned (.bool (!utf nm)) ∧ _
  generalize utf nm = R at *
  clear hT
  go_enter Tryd.func44, Tryd.ntmps44
  go_wp2_with fail
  refine hc.mono ?_
  rintro e w1 ⟨rfl, hb⟩
  go_wp2_with fail
  go_ret
  exact ⟨rfl, (below_new _ _).step hb⟩

theorem size_list (s : ByteArray) : s.toList.length = s.size := by rw [Lib.toList_data, Lib.size_eq]
theorem empty_iff (s : ByteArray) : s.toList = [] ↔ s.size = 0 := by rw [← size_list]; simp

theorem few1_calls : TellsF (fun _ => True) 45 (fun nm => !decide (1 ≤ nm.size ∧ nm.size ≤ 24)) := by
  intro nm V w cs _ hn hV
  obtain ⟨k, n, s, l, fn, fv⟩ := V
  obtain ⟨la, lc, fa, fc, rfl, _⟩ := hV.inv
  show Calls _ _ _ _ fun e w' => e = .returned (.bool (!decide (1 ≤ nm.size ∧ nm.size ≤ 24))) ∧ _
  by_cases h0 : nm.toList = []
  · have h1 : nm.size = 0 := (empty_iff nm).1 h0
    have he : (!decide (1 ≤ nm.size ∧ nm.size ≤ 24)) = true := by rw [h1]; rfl
    rw [he]
    clear he
    go_enter Tryd.func45, Tryd.ntmps45
    go_wp2_with fail
    go_ret
    exact ⟨rfl, below_new _ _⟩
  · have h1 : nm.size ≠ 0 := fun e => h0 ((empty_iff nm).2 e)
    have he : Hid ((!decide (1 ≤ nm.size ∧ nm.size ≤ 24)) = decide (24 < nm.size)) := by
      show _ = _
      by_cases h : 24 < nm.size
      · simp [h]
      · simp [h]; omega
    go_enter Tryd.func45, Tryd.ntmps45
    go_wp2_with fail
    go_ret
    rw [he.out]
    have h2 : nm.toList.isEmpty = false := by simp [h0]
    exact ⟨by simp [h2]; omega, below_new _ _⟩

theorem spelled_calls : TellsB Tabs 30 spelledB := by
  intro V w cs hT hV
  obtain ⟨k, n, s, l, fn, fv⟩ := V
  obtain ⟨la, lc, fa, fc, rfl, hk, hn, hs, hlc, hlm, hfc, hfm, hL, hF⟩ := hV.inv
  have hT1 := Tabs.stays w _ hT (below_new w (.cells #[.int .i64 k, .int .i64 n, .string s, .slice la l.length lc, .slice fa fv.length fc] 27))
  have hc := valid_calls s _ hs hT1
  have he : Hid (spelledB (.mk k n s l fn fv) = (utf s && !fn.any fun nm => !utf nm)) := by
    show _ = _
    simp only [spelledB, List.not_any_eq_all_not, Bool.not_not]
  have hcf := fun (w' : World) (hb : Below w.heap.size w w') => containsFunc_calls Tabs.stays 44 _ spelled1_calls (enters_of Tryd.func44 (by kernel_rfl) rfl) fn fv fa fc w' (Tabs.stays w w' hT hb) (hF.later hb)
  have hcf := hid hcf
  generalize utf s = U at *
  generalize (fn.any fun nm => !utf nm) = N at *
  generalize spelledB (.mk k n s l fn fv) = R at *
  clear hT hT1
  go_enter Tryd.func30, Tryd.ntmps30
  go_wp2_with fail
  refine hc.mono ?_
  rintro e w1 ⟨rfl, hb⟩
  have hb0 := (below_new w _).step hb
  have e4 := box_cell (j := 4) hb rfl
  cases U with
  | false =>
    go_wp2_with fail
    go_ret
    exact ⟨by rw [he.out]; rfl, hb0⟩
  | true =>
    go_wp2_with fail
    refine (hcf.out w1 hb0).mono ?_
    rintro e w2 ⟨rfl, hb2⟩
    go_wp2_with fail
    go_ret
    exact ⟨by rw [he.out]; rfl, hb0.step hb2⟩

theorem few_calls : TellsB (fun _ => True) 31 fewB := by
  intro V w cs _ hV
  obtain ⟨k, n, s, l, fn, fv⟩ := V
  obtain ⟨la, lc, fa, fc, rfl, hk, hn, hs, hlc, hlm, hfc, hfm, hL, hF⟩ := hV.inv
  have he : Hid (fewB (.mk k n s l fn fv) = (decide ((l.length : Int) ≤ 32) && decide ((fv.length : Int) ≤ 32) && !fn.any fun nm => !decide (1 ≤ nm.size ∧ nm.size ≤ 24))) := by
    show _ = _
    simp only [fewB, List.not_any_eq_all_not, Bool.not_not]
    congr 1
    congr 1
    · simp; omega
    · simp; omega
  have hcf := fun (w' : World) (hb : Below w.heap.size w w') => containsFunc_calls (E := fun _ => True) (fun _ _ _ _ => trivial) 45 _ few1_calls (enters_of Tryd.func45 (by kernel_rfl) rfl) fn fv fa fc w' trivial (hF.later hb)
  have hcf := hid hcf
  generalize (fn.any fun nm => !decide (1 ≤ nm.size ∧ nm.size ≤ 24)) = N at *
  generalize fewB (.mk k n s l fn fv) = R at *
  by_cases h1 : (l.length : Int) ≤ 32
  · by_cases h2 : (fv.length : Int) ≤ 32
    · go_enter Tryd.func31, Tryd.ntmps31
      go_wp2_with fail
      refine (hcf.out _ (below_new _ _)).mono ?_
      rintro e w2 ⟨rfl, hb2⟩
      go_wp2_with fail
      go_ret
      exact ⟨by rw [he.out]; simp [h1, h2], (below_new _ _).step hb2⟩
    · have h2' : decide ((fv.length : Int) ≤ 32) = false := by simpa using h2
      go_enter Tryd.func31, Tryd.ntmps31
      go_wp2_with fail
      go_ret
      exact ⟨by rw [he.out]; simp [h2'], below_new _ _⟩
  · have h1' : decide ((l.length : Int) ≤ 32) = false := by simpa using h1
    go_enter Tryd.func31, Tryd.ntmps31
    go_wp2_with fail
    go_ret
    exact ⟨by rw [he.out]; simp [h1'], below_new _ _⟩
end Go.Proofs.YtckdgmjekfpcjaaDoor

namespace Go.Proofs.YtckdgmjekfpcjaaDoor
open Go.RowKit Go.Proofs

set_option maxRecDepth 100000 in
theorem digits_calls (n : Nat) (hn : n < 18446744073709551616) (w : World) :
    Calls Tryd.prog 33 #[.int .u64 n] w fun e w' => e = .returned (.int .i64 (digits n)) ∧ w = w' := by
  have h10 := digits_le n hn
  go_enter Tryd.func33, Tryd.ntmps33
  go_wp2_with fail
  go_loopg [0, 3] n (fun g m k wr => ∃ (a j : Nat), g = a ∧ a < 18446744073709551616 ∧ m = .int .u64 a ∧ k = .int .i64 j ∧ digits a + j = digits n + 1 ∧ wr = w)
  case atStart => exact ⟨n, 1, rfl, hn, rfl, rfl, by omega, rfl⟩
  case round =>
    obtain ⟨a, j, rfl, ha, rfl, rfl, hd, rfl⟩ := hrel
    have hda := digits_le gk ha
    have hd := hid hd
    by_cases h : 128 ≤ gk
    · go_wp2_with fail
      go_roundg (gk / 128)
      case measure => omega
      case rel => exact ⟨gk / 128, j + 1, rfl, by omega, by go_num, by go_num, by
        have e := hd.out
        conv at e => lhs; unfold digits
        rw [if_neg (by omega)] at e
        omega, rfl⟩
    · go_wp2_with fail
      go_ret
      have e := hd.out
      conv at e => lhs; unfold digits
      rw [if_pos (by omega)] at e
      exact ⟨by have : j = digits n := by omega
                rw [this]; rfl, rfl⟩

theorem turned_pos {n : Int} (h0 : 0 ≤ n) (h1 : n ≤ 9223372036854775807) : bits .xor .u64 (n * 2) (n / 9223372036854775808) = (turned n : Int) := by
  obtain ⟨m, rfl⟩ := Int.eq_ofNat_of_zero_le h0
  have e1 : (m : Int) / 9223372036854775808 = ((0 : Nat) : Int) := by omega
  have e2 : (m : Int) * 2 = ((m * 2 : Nat) : Int) := by omega
  rw [e1, e2, bits_xor_u64_nat _ _ (by omega) (by omega), Nat.xor_zero]
  unfold turned
  rw [if_neg (by omega)]
  omega
theorem turned_neg {n : Int} (h0 : -9223372036854775808 ≤ n) (h1 : n < 0) : bits .xor .u64 (IntKind.u64.wrap (IntKind.u64.wrap n * 2)) (IntKind.u64.wrap (n / 9223372036854775808)) = (turned n : Int) := by
  have e1 : IntKind.u64.wrap (IntKind.u64.wrap n * 2) = (((2 * n + 18446744073709551616).toNat : Nat) : Int) := by
    rw [IntKind.wrap_u64, IntKind.wrap_u64]
    omega
  have e2 : IntKind.u64.wrap (n / 9223372036854775808) = ((2 ^ 64 - 1 : Nat) : Int) := by
    rw [IntKind.wrap_u64]
    omega
  rw [e1, e2, bits_xor_u64_nat _ _ (by omega) (by decide), Nat.xor_comm, Lib.xor_ones64 _ (by omega)]
  unfold turned
  rw [if_pos (by omega)]
  omega

set_option maxRecDepth 100000 in
theorem turned_calls (n : Int) (hn : -9223372036854775808 ≤ n ∧ n ≤ 9223372036854775807) (w : World) :
    Calls Tryd.prog 34 #[.int .i64 n] w fun e w' => e = .returned (.int .u64 (turned n)) ∧ w = w' := by
  by_cases h : 0 ≤ n
  · have he := hid (turned_pos h hn.2)
    go_enter Tryd.func34, Tryd.ntmps34
    go_wp2_with fail
    go_ret
    exact ⟨by rw [← he.out]; rfl, rfl⟩
  · have he := hid (turned_neg hn.1 (by omega))
    go_enter Tryd.func34, Tryd.ntmps34
    go_wp2_with fail
    go_ret
    exact ⟨by rw [← he.out]; rfl, rfl⟩
end Go.Proofs.YtckdgmjekfpcjaaDoor
