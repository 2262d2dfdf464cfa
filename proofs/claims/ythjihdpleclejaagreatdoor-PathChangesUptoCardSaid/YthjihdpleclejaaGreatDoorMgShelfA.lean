/-
  DERIVED: THE SHELF's CONTRACTS AT THIS DUMP, IN PLAIN WORDS (tools/lay-plain.mjs out of 'TryzShelf.lean', which tools/lay-shelf.mjs wrote): THE SAME DECLARATIONS UNDER THE SAME NAMES: 'import', 'namespace', 'open', 'def', 'theorem' AND NOTHING ELSE: no command of the shelf's: FOR A HAND-IN. Each laying: the table of numbers ('.._ren') and one theorem, a field a fact of the dump's own or the kernel's comparison; each contract: ONE APPLICATION.
  Walks: utf.Valid, value.spelled, few: where the tables of unicode/utf8 lie as their text lays them.
  Walks: value.digits, Turned.
  Plain: a character's decoding, as the reference reads it, is the kit's.
  Plain: a text's characters.
-/
import Derived.Shelf.Small.Strs
import Derived.Shelf.Strings.Split
import Derived.Shelf.Strings.SplitShaped
import Derived.Shelf.Unicode.ValidAny
import Derived.Test.YthjihdpleclejaaGreatDoorProg
import Derived.Test.YthjihdpleclejaaGreatDoorMgVal1
import Derived.Outline
import Derived.Handy
import Derived.Deep.LoopGhost
import Derived.WalkLawsBesides
import Derived.Test.YthjihdpleclejaaGreatDoorMgPlain
import Derived.Lib.Zigzag
import Derived.Lib.ValidLaws
namespace Go.Proofs
open Go.Shelf
open Go.RowKit in
def Tryz.lays106_ren : Go.Shelf.Ren := ⟨fun | 106 => 84 | 213 => 98 | 265 => 107 | n => n, fun | 9 => 9 | 3 => 3 | n => n, fun | n => n⟩
theorem Tryz.lays106 : Go.Proofs.Lays.n106 Tryz.prog Tryz.lays106_ren := {
 mixed := by kernel_rfl
 f106 := Tryz.func84.trans (congrArg some (by kernel_rfl))
 f213 := Tryz.func98.trans (congrArg some (by kernel_rfl))
 f265 := Tryz.func107.trans (congrArg some (by kernel_rfl))
 t3 := Tryz.underlying3
 a3 := Tryz.isAgg3
 z3 := Tryz.sizeOf3
 v3 := Tryz.zeroValue3
 t9 := Tryz.underlying9
 a9 := Tryz.isAgg9
 z9 := Tryz.sizeOf9
 v9 := Tryz.zeroValue9 }
open Go.RowKit in
theorem Tryz.strings_Compare (a b : ByteArray) (w : World) :
  Calls Tryz.prog 84 #[.string a, .string b] w fun e w' => e = .returned (.int .i64 (Lib.compareBytes a.data.toList b.data.toList)) ∧ w' = w := Any.strings_Compare Tryz.lays106 a b w
def Tryz.lays147_ren : Go.Shelf.Ren := ⟨fun | 147 => 53 | 221 => 79 | 268 => 95 | 138 => 96 | 143 => 97 | 195 => 103 | 197 => 104 | 218 => 105 | 219 => 106 | 260 => 110 | 217 => 111 | 225 => 112 | 224 => 113 | 267 => 114 | 266 => 115 | 314 => 116 | n => n, fun | 9 => 9 | 3 => 3 | 31 => 57 | 4 => 4 | 0 => 0 | 105 => 119 | 21 => 21 | 5 => 5 | 46 => 108 | 119 => 115 | 139 => 118 | 138 => 117 | 146 => 127 | 51 => 126 | n => n, fun | 1 => 2 | 3 => 0 | 4 => 1 | n => n⟩
theorem Tryz.lays147 : Go.Proofs.Lays.n147 Tryz.prog Tryz.lays147_ren := {
 mixed := by kernel_rfl
 f138 := Tryz.func96.trans (congrArg some (by kernel_rfl))
 f143 := Tryz.func97.trans (congrArg some (by kernel_rfl))
 f147 := Tryz.func53.trans (congrArg some (by kernel_rfl))
 f195 := Tryz.func103.trans (congrArg some (by kernel_rfl))
 f197 := Tryz.func104.trans (congrArg some (by kernel_rfl))
 f217 := Tryz.func111.trans (congrArg some (by kernel_rfl))
 f218 := Tryz.func105.trans (congrArg some (by kernel_rfl))
 f219 := Tryz.func106.trans (congrArg some (by kernel_rfl))
 f221 := Tryz.func79.trans (congrArg some (by kernel_rfl))
 f224 := Tryz.func113.trans (congrArg some (by kernel_rfl))
 f225 := Tryz.func112.trans (congrArg some (by kernel_rfl))
 f260 := Tryz.func110.trans (congrArg some (by kernel_rfl))
 f266 := Tryz.func115.trans (congrArg some (by kernel_rfl))
 f267 := Tryz.func114.trans (congrArg some (by kernel_rfl))
 f268 := Tryz.func95.trans (congrArg some (by kernel_rfl))
 f314 := Tryz.func116.trans (congrArg some (by kernel_rfl))
 t0 := Tryz.underlying0
 a0 := Tryz.isAgg0
 z0 := Tryz.sizeOf0
 v0 := Tryz.zeroValue0
 t3 := Tryz.underlying3
 a3 := Tryz.isAgg3
 z3 := Tryz.sizeOf3
 v3 := Tryz.zeroValue3
 t4 := Tryz.underlying4
 a4 := Tryz.isAgg4
 z4 := Tryz.sizeOf4
 v4 := Tryz.zeroValue4
 t5 := Tryz.underlying5
 a5 := Tryz.isAgg5
 z5 := Tryz.sizeOf5
 v5 := Tryz.zeroValue5
 t9 := Tryz.underlying9
 a9 := Tryz.isAgg9
 z9 := Tryz.sizeOf9
 v9 := Tryz.zeroValue9
 t21 := Tryz.underlying21
 a21 := Tryz.isAgg21
 z21 := Tryz.sizeOf21
 v21 := Tryz.zeroValue21
 t31 := Tryz.underlying57
 a31 := Tryz.isAgg57
 z31 := Tryz.sizeOf57
 v31 := Tryz.zeroValue57
 t46 := Tryz.underlying108
 a46 := Tryz.isAgg108
 z46 := Tryz.sizeOf108
 v46 := Tryz.zeroValue108
 t51 := Tryz.underlying126
 a51 := Tryz.isAgg126
 z51 := Tryz.sizeOf126
 v51 := Tryz.zeroValue126
 t105 := Tryz.underlying119
 a105 := Tryz.isAgg119
 z105 := Tryz.sizeOf119
 v105 := Tryz.zeroValue119
 t119 := Tryz.underlying115
 a119 := Tryz.isAgg115
 z119 := Tryz.sizeOf115
 t138 := Tryz.underlying117
 a138 := Tryz.isAgg117
 z138 := Tryz.sizeOf117
 v138 := Tryz.zeroValue117
 t139 := Tryz.underlying118
 a139 := Tryz.isAgg118
 z139 := Tryz.sizeOf118
 v139 := Tryz.zeroValue118
 t146 := Tryz.underlying127
 a146 := Tryz.isAgg127
 z146 := Tryz.sizeOf127
 v146 := Tryz.zeroValue127
 g1 := by kernel_rfl
 g3 := by kernel_rfl
 g4 := by kernel_rfl }
open Go.RowKit Go.Lib in
theorem Tryz.strings_SplitN (s sep : ByteArray) (n : Nat) (m : Int) (w : World) (hs : s.size < 4294967281) (hm : w.cell? ⟨2, 0, none⟩ = some (.int .i64 m)) (h1 : 1 ≤ sep.size) (hn : 1 ≤ n) (hn63 : n ≤ 9223372036854775807) :
  Calls Tryz.prog 53 #[.string s, .string sep, .int .i64 n] w fun e w' =>
   e = .returned (.slice (some ⟨w.heap.size, 0, none⟩) (Lib.splitB sep 0 (min n (s.size + 1) - 1) s).length (min n (s.size + 1))) ∧ w' = w.alloc (.cells (Lib.cellsOf (Lib.splitB sep 0 (min n (s.size + 1) - 1) s) (min n (s.size + 1))) 9) := Any.strings_SplitN Tryz.lays147 (by kernel_rfl) s sep n m w hs hm h1 hn hn63
def Tryz.laysM147_ren : Go.Shelf.Ren := ⟨fun | 147 => 53 | 221 => 79 | 268 => 95 | 138 => 96 | 143 => 97 | 195 => 103 | 197 => 104 | 218 => 105 | 219 => 106 | 260 => 110 | 217 => 111 | 225 => 112 | 224 => 113 | 267 => 114 | 266 => 115 | 314 => 116 | n => n, fun | 9 => 9 | 3 => 3 | 31 => 57 | 4 => 4 | 0 => 0 | 105 => 119 | 21 => 21 | 5 => 5 | 46 => 108 | 119 => 115 | 139 => 118 | 138 => 117 | 146 => 127 | 51 => 126 | n => n, fun | 1 => 2 | 3 => 0 | 4 => 1 | n => n⟩
theorem Tryz.laysM147 : Go.Proofs.LaysM.n147 Tryz.prog Tryz.laysM147_ren := {
 mixed := by kernel_rfl
 f138 := Tryz.func96.trans (congrArg some (by kernel_rfl))
 f143 := Tryz.func97.trans (congrArg some (by kernel_rfl))
 f147 := Tryz.func53.trans (congrArg some (by kernel_rfl))
 f195 := Tryz.func103.trans (congrArg some (by kernel_rfl))
 f197 := Tryz.func104.trans (congrArg some (by kernel_rfl))
 f217 := Tryz.func111.trans (congrArg some (by kernel_rfl))
 f218 := Tryz.func105.trans (congrArg some (by kernel_rfl))
 f219 := Tryz.func106.trans (congrArg some (by kernel_rfl))
 f221 := Tryz.func79.trans (congrArg some (by kernel_rfl))
 f224 := Tryz.func113.trans (congrArg some (by kernel_rfl))
 f225 := Tryz.func112.trans (congrArg some (by kernel_rfl))
 f260 := Tryz.func110.trans (congrArg some (by kernel_rfl))
 f266 := Tryz.func115.trans (congrArg some (by kernel_rfl))
 f267 := Tryz.func114.trans (congrArg some (by kernel_rfl))
 f268 := Tryz.func95.trans (congrArg some (by kernel_rfl))
 f314 := Tryz.func116.trans (congrArg some (by kernel_rfl))
 t0 := Tryz.underlying0
 a0 := Tryz.isAgg0
 z0 := Tryz.sizeOf0
 v0 := Tryz.zeroValue0
 t3 := Tryz.underlying3
 a3 := Tryz.isAgg3
 z3 := Tryz.sizeOf3
 v3 := Tryz.zeroValue3
 t4 := Tryz.underlying4
 a4 := Tryz.isAgg4
 z4 := Tryz.sizeOf4
 v4 := Tryz.zeroValue4
 t5 := Tryz.underlying5
 a5 := Tryz.isAgg5
 z5 := Tryz.sizeOf5
 v5 := Tryz.zeroValue5
 t9 := Tryz.underlying9
 a9 := Tryz.isAgg9
 z9 := Tryz.sizeOf9
 v9 := Tryz.zeroValue9
 t21 := Tryz.underlying21
 a21 := Tryz.isAgg21
 z21 := Tryz.sizeOf21
 v21 := Tryz.zeroValue21
 t31 := Tryz.underlying57
 a31 := Tryz.isAgg57
 z31 := Tryz.sizeOf57
 v31 := Tryz.zeroValue57
 t46 := Tryz.underlying108
 a46 := Tryz.isAgg108
 z46 := Tryz.sizeOf108
 v46 := Tryz.zeroValue108
 t51 := Tryz.underlying126
 a51 := Tryz.isAgg126
 z51 := Tryz.sizeOf126
 v51 := Tryz.zeroValue126
 t105 := Tryz.underlying119
 a105 := Tryz.isAgg119
 z105 := Tryz.sizeOf119
 v105 := Tryz.zeroValue119
 t119 := Tryz.underlying115
 a119 := Tryz.isAgg115
 z119 := Tryz.sizeOf115
 t138 := Tryz.underlying117
 a138 := Tryz.isAgg117
 z138 := Tryz.sizeOf117
 v138 := Tryz.zeroValue117
 t139 := Tryz.underlying118
 a139 := Tryz.isAgg118
 z139 := Tryz.sizeOf118
 v139 := Tryz.zeroValue118
 t146 := Tryz.underlying127
 a146 := Tryz.isAgg127
 z146 := Tryz.sizeOf127
 v146 := Tryz.zeroValue127
 g1 := by kernel_rfl
 g3 := by kernel_rfl
 g4 := by kernel_rfl
 i0 := by kernel_rfl
 i3 := by kernel_rfl
 i4 := by kernel_rfl
 i5 := by kernel_rfl
 i9 := by kernel_rfl
 i21 := by kernel_rfl
 i31 := by kernel_rfl
 i46 := by kernel_rfl
 i51 := by kernel_rfl
 i105 := by kernel_rfl
 i138 := by kernel_rfl
 i139 := by kernel_rfl
 i146 := by kernel_rfl
 m1 := by kernel_rfl
 s1_3 := fun w h => Go.Proofs.cell_of_shapedOpen_int (zero := #[.int .i64 0]) (t := 3) h (of_decide_eq_true (by kernel_rfl)) (by kernel_rfl) rfl (by kernel_rfl) (by kernel_rfl) Tryz.underlying3
 m3 := by kernel_rfl
 m4 := by kernel_rfl }
open Go.RowKit Go.Lib in
def Tryz.lays196_ren : Go.Shelf.Ren := ⟨fun | 196 => 93 | 259 => 102 | n => n, fun | 9 => 9 | 4 => 4 | 3 => 3 | 5 => 5 | 12 => 12 | 119 => 115 | 0 => 0 | 46 => 108 | 139 => 118 | 138 => 117 | 53 => 67 | n => n, fun | 3 => 0 | 4 => 1 | n => n⟩
theorem Tryz.lays196 : Go.Proofs.Lays.n196 Tryz.prog Tryz.lays196_ren := {
 mixed := by kernel_rfl
 f196 := Tryz.func93.trans (congrArg some (by kernel_rfl))
 f259 := Tryz.func102.trans (congrArg some (by kernel_rfl))
 t0 := Tryz.underlying0
 a0 := Tryz.isAgg0
 z0 := Tryz.sizeOf0
 v0 := Tryz.zeroValue0
 t3 := Tryz.underlying3
 a3 := Tryz.isAgg3
 z3 := Tryz.sizeOf3
 v3 := Tryz.zeroValue3
 t4 := Tryz.underlying4
 a4 := Tryz.isAgg4
 z4 := Tryz.sizeOf4
 v4 := Tryz.zeroValue4
 t5 := Tryz.underlying5
 a5 := Tryz.isAgg5
 z5 := Tryz.sizeOf5
 v5 := Tryz.zeroValue5
 t9 := Tryz.underlying9
 a9 := Tryz.isAgg9
 z9 := Tryz.sizeOf9
 v9 := Tryz.zeroValue9
 t12 := Tryz.underlying12
 a12 := Tryz.isAgg12
 z12 := Tryz.sizeOf12
 v12 := Tryz.zeroValue12
 t46 := Tryz.underlying108
 a46 := Tryz.isAgg108
 z46 := Tryz.sizeOf108
 v46 := Tryz.zeroValue108
 t53 := Tryz.underlying67
 a53 := Tryz.isAgg67
 z53 := Tryz.sizeOf67
 v53 := Tryz.zeroValue67
 t119 := Tryz.underlying115
 a119 := Tryz.isAgg115
 z119 := Tryz.sizeOf115
 t138 := Tryz.underlying117
 a138 := Tryz.isAgg117
 z138 := Tryz.sizeOf117
 v138 := Tryz.zeroValue117
 t139 := Tryz.underlying118
 a139 := Tryz.isAgg118
 z139 := Tryz.sizeOf118
 v139 := Tryz.zeroValue118
 g3 := by kernel_rfl
 g4 := by kernel_rfl }
open Go.RowKit Go.Lib in
theorem Tryz.utf8_ValidString (s : ByteArray) (w : World) (hs : s.size ≤ 9223372036854775807) (hT : Lib.Utf8Tabs 0 1 w) :
  Calls Tryz.prog 93 #[.string s] w fun e w' => e = .returned (.bool (Lib.validD s.data.toList)) ∧ Below w.heap.size w w' := Any.utf8_ValidString Tryz.lays196 s w hs hT
end Go.Proofs
namespace Go.Proofs.YthjihdpleclejaaGreatDoor
open Go.RowKit Go.Proofs
def Tabs (w : World) : Prop := Lib.Utf8Tabs 0 1 w
theorem Tabs.stays : Stays Tabs := fun _ _ h hb => Utf8Tabs_below h hb
theorem valid_calls (s : ByteArray) (w : World) (hs : s.size ≤ 140737488355328) (hT : Tabs w) :
  Calls Tryz.prog 73 #[.string s] w fun e w' => e = .returned (.bool (utf s)) ∧ Below w.heap.size w w' := by
 have hc := Tryz.utf8_ValidString s w (by omega) hT
 unfold utf
 generalize Lib.validD s.data.toList = R at *
 clear hT
 go_enter Tryz.func73, Tryz.ntmps73
 go_wp2_with fail
 refine hc.mono ?_
 rintro e w1 ⟨rfl, hb⟩
 go_wp2_with fail
 go_ret
 exact ⟨rfl, hb⟩
theorem spelled1_calls : TellsF Tabs 75 (fun nm => !utf nm) := by
 intro nm V w cs hT hn hV
 obtain ⟨k, n, s, l, fn, fv⟩ := V
 obtain ⟨la, lc, fa, fc, rfl, _⟩ := hV.inv
 have hc := valid_calls nm _ hn (Tabs.stays w _ hT (below_new w (.cells #[.string nm, .int .i64 k, .int .i64 n, .string s, .slice la l.length lc, .slice fa fv.length fc] 54)))
 show Calls _ _ _ _ fun e w' => e = .returned (.bool (!utf nm)) ∧ _
 generalize utf nm = R at *
 clear hT
 go_enter Tryz.func75, Tryz.ntmps75
 go_wp2_with fail
 refine hc.mono ?_
 rintro e w1 ⟨rfl, hb⟩
 go_wp2_with fail
 go_ret
 exact ⟨rfl, (below_new _ _).step hb⟩
theorem size_list (s : ByteArray) : s.toList.length = s.size := by rw [Lib.toList_data, Lib.size_eq]
theorem empty_iff (s : ByteArray) : s.toList = [] ↔ s.size = 0 := by rw [← size_list]; simp
theorem few1_calls : TellsF (fun _ => True) 76 (fun nm => !decide (1 ≤ nm.size ∧ nm.size ≤ 24)) := by
 intro nm V w cs _ hn hV
 obtain ⟨k, n, s, l, fn, fv⟩ := V
 obtain ⟨la, lc, fa, fc, rfl, _⟩ := hV.inv
 show Calls _ _ _ _ fun e w' => e = .returned (.bool (!decide (1 ≤ nm.size ∧ nm.size ≤ 24))) ∧ _
 by_cases h0 : nm.toList = []
 ·have h1 : nm.size = 0 := (empty_iff nm).1 h0
  have he : (!decide (1 ≤ nm.size ∧ nm.size ≤ 24)) = true := by rw [h1]; rfl
  rw [he]
  clear he
  go_enter Tryz.func76, Tryz.ntmps76
  go_wp2_with fail
  go_ret
  exact ⟨rfl, below_new _ _⟩
 ·have h1 : nm.size ≠ 0 := fun e => h0 ((empty_iff nm).2 e)
  have he : Hid ((!decide (1 ≤ nm.size ∧ nm.size ≤ 24)) = decide (24 < nm.size)) := by
   show _ = _
   by_cases h : 24 < nm.size
   ·simp [h]
   ·simp [h]; omega
  go_enter Tryz.func76, Tryz.ntmps76
  go_wp2_with fail
  go_ret
  rw [he.out]
  have h2 : nm.toList.isEmpty = false := by simp [h0]
  exact ⟨by simp [h2]; omega, below_new _ _⟩
theorem spelled_calls : TellsB Tabs 49 spelledB := by
 intro V w cs hT hV
 obtain ⟨k, n, s, l, fn, fv⟩ := V
 obtain ⟨la, lc, fa, fc, rfl, hk, hn, hs, hlc, hlm, hfc, hfm, hL, hF⟩ := hV.inv
 have hT1 := Tabs.stays w _ hT (below_new w (.cells #[.int .i64 k, .int .i64 n, .string s, .slice la l.length lc, .slice fa fv.length fc] 25))
 have hc := valid_calls s _ hs hT1
 have he : Hid (spelledB (.mk k n s l fn fv) = (utf s && !fn.any fun nm => !utf nm)) := by
  show _ = _
  simp only [spelledB, List.not_any_eq_all_not, Bool.not_not]
 have hcf := fun (w' : World) (hb : Below w.heap.size w w') => containsFunc_calls Tabs.stays 75 _ spelled1_calls (enters_of Tryz.func75 (by kernel_rfl) rfl) fn fv fa fc w' (Tabs.stays w w' hT hb) (hF.later hb)
 have hcf := hid hcf
 generalize utf s = U at *
 generalize (fn.any fun nm => !utf nm) = N at *
 generalize spelledB (.mk k n s l fn fv) = R at *
 clear hT hT1
 go_enter Tryz.func49, Tryz.ntmps49
 go_wp2_with fail
 refine hc.mono ?_
 rintro e w1 ⟨rfl, hb⟩
 have hb0 := (below_new w _).step hb
 have e4 := box_cell (j := 4) hb rfl
 cases U with
 | false =>
  go_wp2_with fail
  go_ret
  exact ⟨by rw [he.out]; rfl, hb0⟩
 | true =>
  go_wp2_with fail
  refine (hcf.out w1 hb0).mono ?_
  rintro e w2 ⟨rfl, hb2⟩
  go_wp2_with fail
  go_ret
  exact ⟨by rw [he.out]; rfl, hb0.step hb2⟩
theorem few_calls : TellsB (fun _ => True) 50 fewB := by
 intro V w cs _ hV
 obtain ⟨k, n, s, l, fn, fv⟩ := V
 obtain ⟨la, lc, fa, fc, rfl, hk, hn, hs, hlc, hlm, hfc, hfm, hL, hF⟩ := hV.inv
 have he : Hid (fewB (.mk k n s l fn fv) = (decide ((l.length : Int) ≤ 32) && decide ((fv.length : Int) ≤ 32) && !fn.any fun nm => !decide (1 ≤ nm.size ∧ nm.size ≤ 24))) := by
  show _ = _
  simp only [fewB, List.not_any_eq_all_not, Bool.not_not]
  congr 1
  congr 1
  ·simp; omega
  ·simp; omega
 have hcf := fun (w' : World) (hb : Below w.heap.size w w') => containsFunc_calls (E := fun _ => True) (fun _ _ _ _ => trivial) 76 _ few1_calls (enters_of Tryz.func76 (by kernel_rfl) rfl) fn fv fa fc w' trivial (hF.later hb)
 have hcf := hid hcf
 generalize (fn.any fun nm => !decide (1 ≤ nm.size ∧ nm.size ≤ 24)) = N at *
 generalize fewB (.mk k n s l fn fv) = R at *
 by_cases h1 : (l.length : Int) ≤ 32
 ·by_cases h2 : (fv.length : Int) ≤ 32
  ·go_enter Tryz.func50, Tryz.ntmps50
   go_wp2_with fail
   refine (hcf.out _ (below_new _ _)).mono ?_
   rintro e w2 ⟨rfl, hb2⟩
   go_wp2_with fail
   go_ret
   exact ⟨by rw [he.out]; simp [h1, h2], (below_new _ _).step hb2⟩
  ·have h2' : decide ((fv.length : Int) ≤ 32) = false := by simpa using h2
   go_enter Tryz.func50, Tryz.ntmps50
   go_wp2_with fail
   go_ret
   exact ⟨by rw [he.out]; simp [h2'], below_new _ _⟩
 ·have h1' : decide ((l.length : Int) ≤ 32) = false := by simpa using h1
  go_enter Tryz.func50, Tryz.ntmps50
  go_wp2_with fail
  go_ret
  exact ⟨by rw [he.out]; simp [h1'], below_new _ _⟩
end Go.Proofs.YthjihdpleclejaaGreatDoor
namespace Go.Proofs.YthjihdpleclejaaGreatDoor
open Go.RowKit Go.Proofs
set_option maxRecDepth 100000 in
theorem digits_calls (n : Nat) (hn : n < 18446744073709551616) (w : World) :
    Calls Tryz.prog 77 #[.int .u64 n] w fun e w' => e = .returned (.int .i64 (digits n)) ∧ w = w' := by
  have h10 := digits_le n hn
  go_enter Tryz.func77, Tryz.ntmps77
  go_wp2_with fail
  go_loopg [0, 3] n (fun g m k wr => ∃ (a j : Nat), g = a ∧ a < 18446744073709551616 ∧ m = .int .u64 a ∧ k = .int .i64 j ∧ digits a + j = digits n + 1 ∧ wr = w)
  case atStart => exact ⟨n, 1, rfl, hn, rfl, rfl, by omega, rfl⟩
  case round =>
    obtain ⟨a, j, rfl, ha, rfl, rfl, hd, rfl⟩ := hrel
    have hda := digits_le gk ha
    have hd := hid hd
    by_cases h : 128 ≤ gk
    · go_wp2_with fail
      go_roundg (gk / 128)
      case measure => omega
      case rel => exact ⟨gk / 128, j + 1, rfl, by omega, by go_num, by go_num, by
        have e := hd.out
        conv at e => lhs; unfold digits
        rw [if_neg (by omega)] at e
        omega, rfl⟩
    · go_wp2_with fail
      go_ret
      have e := hd.out
      conv at e => lhs; unfold digits
      rw [if_pos (by omega)] at e
      exact ⟨by have : j = digits n := by omega
                rw [this]; rfl, rfl⟩
theorem turned_pos {n : Int} (h0 : 0 ≤ n) (h1 : n ≤ 9223372036854775807) : bits .xor .u64 (n * 2) (n / 9223372036854775808) = (turned n : Int) := by
 obtain ⟨m, rfl⟩ := Int.eq_ofNat_of_zero_le h0
 have e1 : (m : Int) / 9223372036854775808 = ((0 : Nat) : Int) := by omega
 have e2 : (m : Int) * 2 = ((m * 2 : Nat) : Int) := by omega
 rw [e1, e2, bits_xor_u64_nat _ _ (by omega) (by omega), Nat.xor_zero]
 unfold turned
 rw [if_neg (by omega)]
 omega
theorem turned_neg {n : Int} (h0 : -9223372036854775808 ≤ n) (h1 : n < 0) : bits .xor .u64 (IntKind.u64.wrap (IntKind.u64.wrap n * 2)) (IntKind.u64.wrap (n / 9223372036854775808)) = (turned n : Int) := by
 have e1 : IntKind.u64.wrap (IntKind.u64.wrap n * 2) = (((2 * n + 18446744073709551616).toNat : Nat) : Int) := by
  rw [IntKind.wrap_u64, IntKind.wrap_u64]
  omega
 have e2 : IntKind.u64.wrap (n / 9223372036854775808) = ((2 ^ 64 - 1 : Nat) : Int) := by
  rw [IntKind.wrap_u64]
  omega
 rw [e1, e2, bits_xor_u64_nat _ _ (by omega) (by decide), Nat.xor_comm, Lib.xor_ones64 _ (by omega)]
 unfold turned
 rw [if_pos (by omega)]
 omega
set_option maxRecDepth 100000 in
theorem turned_calls (n : Int) (hn : -9223372036854775808 ≤ n ∧ n ≤ 9223372036854775807) (w : World) :
  Calls Tryz.prog 78 #[.int .i64 n] w fun e w' => e = .returned (.int .u64 (turned n)) ∧ w = w' := by
 by_cases h : 0 ≤ n
 ·have he := hid (turned_pos h hn.2)
  go_enter Tryz.func78, Tryz.ntmps78
  go_wp2_with fail
  go_ret
  exact ⟨by rw [← he.out]; rfl, rfl⟩
 ·have he := hid (turned_neg hn.1 (by omega))
  go_enter Tryz.func78, Tryz.ntmps78
  go_wp2_with fail
  go_ret
  exact ⟨by rw [← he.out]; rfl, rfl⟩
end Go.Proofs.YthjihdpleclejaaGreatDoor
namespace Go.Proofs.YthjihdpleclejaaGreatDoor
open Go Go.Lib
def finN (v low sz : Nat) : Option (Nat × Nat) := if low ≤ v ∧ v ≤ 1114111 ∧ (v < 55296 ∨ 57343 < v) then some (v, sz) else none
def nextN (n b0 b1 b2 b3 : Nat) : Option (Nat × Nat) :=
 if b0 < 128 then finN b0 0 1
 else if b0 < 192 then none
 else if b0 < 224 then (if n < 2 ∨ b1 < 128 ∨ 192 ≤ b1 then none else finN ((b0 - 192) * 64 + b1 - 128) 128 2)
 else if b0 < 240 then (if n < 3 ∨ b1 < 128 ∨ 192 ≤ b1 ∨ b2 < 128 ∨ 192 ≤ b2 then none else finN (((b0 - 224) * 64 + b1 - 128) * 64 + b2 - 128) 2048 3)
 else if b0 < 248 then (if n < 4 ∨ b1 < 128 ∨ 192 ≤ b1 ∨ b2 < 128 ∨ 192 ≤ b2 ∨ b3 < 128 ∨ 192 ≤ b3 then none else finN ((((b0 - 240) * 64 + b1 - 128) * 64 + b2 - 128) * 64 + b3 - 128) 65536 4)
 else none
set_option maxRecDepth 100000 in
set_option maxHeartbeats 8000000 in
theorem next_decode (n b0 b1 b2 b3 : Nat) (h0 : b0 < 256) (h1 : b1 < 256) (h2 : b2 < 256) (h3 : b3 < 256) :
  nextN n b0 b1 b2 b3 = if (decodeN n b0 b1 b2 b3).1 = 65533 ∧ (decodeN n b0 b1 b2 b3).2 = 1 then none else some (decodeN n b0 b1 b2 b3) := by
 have bad : ∀ D : Nat × Nat, D = (65533, 1) → (none : Option (Nat × Nat)) = if D.1 = 65533 ∧ D.2 = 1 then none else some D := fun D h => by subst h; simp
 have ok : ∀ (D : Nat × Nat) (v sz : Nat), D = (v, sz) → (v ≠ 65533 ∨ sz ≠ 1) → some (v, sz) = if D.1 = 65533 ∧ D.2 = 1 then none else some D := fun D v sz h k => by
  subst h
  rw [if_neg (by omega)]
 unfold nextN
 by_cases c0 : b0 < 128
 ·have hD : decodeN n b0 b1 b2 b3 = (b0, 1) := by unfold decodeN; rw [if_pos c0]
  rw [if_pos c0, finN, if_pos (by omega)]
  exact ok _ _ _ hD (.inl (by omega))
 rw [if_neg c0]
 by_cases c1 : b0 < 192
 ·have hD : decodeN n b0 b1 b2 b3 = (65533, 1) := by unfold decodeN; rw [if_neg c0, if_neg (by omega), if_neg (by omega), if_neg (by omega)]
  rw [if_pos c1]
  exact bad _ hD
 rw [if_neg c1]
 by_cases c2 : b0 < 224
 ·rw [if_pos c2]
  by_cases c : n < 2 ∨ b1 < 128 ∨ 192 ≤ b1
  ·have hD : decodeN n b0 b1 b2 b3 = (65533, 1) := by unfold decodeN; rw [if_neg c0, if_neg (by omega), if_neg (by omega), if_neg (by omega)]
   rw [if_pos c]
   exact bad _ hD
  ·have e : (b0 - 192) * 64 + b1 - 128 = b0 % 32 * 64 + b1 % 64 := by omega
   rw [if_neg c, e, finN]
   by_cases d : b0 % 32 * 64 + b1 % 64 ≥ 128
   ·have hD : decodeN n b0 b1 b2 b3 = (b0 % 32 * 64 + b1 % 64, 2) := by unfold decodeN; rw [if_neg c0, if_pos (by omega), if_pos d]
    rw [if_pos (by omega)]
    exact ok _ _ _ hD (.inr (by omega))
   ·have hD : decodeN n b0 b1 b2 b3 = (65533, 1) := by unfold decodeN; rw [if_neg c0, if_pos (by omega), if_neg d]
    rw [if_neg (by omega)]
    exact bad _ hD
 rw [if_neg c2]
 by_cases c3 : b0 < 240
 ·rw [if_pos c3]
  by_cases c : n < 3 ∨ b1 < 128 ∨ 192 ≤ b1 ∨ b2 < 128 ∨ 192 ≤ b2
  ·have hD : decodeN n b0 b1 b2 b3 = (65533, 1) := by unfold decodeN; rw [if_neg c0, if_neg (by omega), if_neg (by omega), if_neg (by omega)]
   rw [if_pos c]
   exact bad _ hD
  ·have e : ((b0 - 224) * 64 + b1 - 128) * 64 + b2 - 128 = b0 % 16 * 4096 + b1 % 64 * 64 + b2 % 64 := by omega
   rw [if_neg c, e, finN]
   by_cases d : b0 % 16 * 4096 + b1 % 64 * 64 + b2 % 64 ≥ 2048 ∧ (b0 % 16 * 4096 + b1 % 64 * 64 + b2 % 64 < 55296 ∨ (57344 ≤ b0 % 16 * 4096 + b1 % 64 * 64 + b2 % 64 ∧ b0 % 16 * 4096 + b1 % 64 * 64 + b2 % 64 ≤ 1114111))
   ·have hD : decodeN n b0 b1 b2 b3 = (b0 % 16 * 4096 + b1 % 64 * 64 + b2 % 64, 3) := by unfold decodeN; rw [if_neg c0, if_neg (by omega), if_pos (by omega), if_pos d]
    rw [if_pos (by omega)]
    exact ok _ _ _ hD (.inr (by omega))
   ·have hD : decodeN n b0 b1 b2 b3 = (65533, 1) := by unfold decodeN; rw [if_neg c0, if_neg (by omega), if_pos (by omega), if_neg d]
    rw [if_neg (by omega)]
    exact bad _ hD
 rw [if_neg c3]
 by_cases c4 : b0 < 248
 ·rw [if_pos c4]
  by_cases c : n < 4 ∨ b1 < 128 ∨ 192 ≤ b1 ∨ b2 < 128 ∨ 192 ≤ b2 ∨ b3 < 128 ∨ 192 ≤ b3
  ·have hD : decodeN n b0 b1 b2 b3 = (65533, 1) := by unfold decodeN; rw [if_neg c0, if_neg (by omega), if_neg (by omega), if_neg (by omega)]
   rw [if_pos c]
   exact bad _ hD
  ·have e : (((b0 - 240) * 64 + b1 - 128) * 64 + b2 - 128) * 64 + b3 - 128 = b0 % 8 * 262144 + b1 % 64 * 4096 + b2 % 64 * 64 + b3 % 64 := by omega
   rw [if_neg c, e, finN]
   by_cases d : b0 % 8 * 262144 + b1 % 64 * 4096 + b2 % 64 * 64 + b3 % 64 ≥ 65536 ∧ (b0 % 8 * 262144 + b1 % 64 * 4096 + b2 % 64 * 64 + b3 % 64 < 55296 ∨ (57344 ≤ b0 % 8 * 262144 + b1 % 64 * 4096 + b2 % 64 * 64 + b3 % 64 ∧ b0 % 8 * 262144 + b1 % 64 * 4096 + b2 % 64 * 64 + b3 % 64 ≤ 1114111))
   ·have hD : decodeN n b0 b1 b2 b3 = (b0 % 8 * 262144 + b1 % 64 * 4096 + b2 % 64 * 64 + b3 % 64, 4) := by unfold decodeN; rw [if_neg c0, if_neg (by omega), if_neg (by omega), if_pos (by omega), if_pos d]
    rw [if_pos (by omega)]
    exact ok _ _ _ hD (.inr (by omega))
   ·have hD : decodeN n b0 b1 b2 b3 = (65533, 1) := by unfold decodeN; rw [if_neg c0, if_neg (by omega), if_neg (by omega), if_pos (by omega), if_neg d]
    rw [if_neg (by omega)]
    exact bad _ hD
 ·have hD : decodeN n b0 b1 b2 b3 = (65533, 1) := by unfold decodeN; rw [if_neg c0, if_neg (by omega), if_neg (by omega), if_neg (by omega)]
  rw [if_neg c4]
  exact bad _ hD
end Go.Proofs.YthjihdpleclejaaGreatDoor
namespace Go.Proofs.YthjihdpleclejaaGreatDoor
open Go Go.Lib
theorem nextN_some {n b0 b1 b2 b3 v sz : Nat} (h : nextN n b0 b1 b2 b3 = some (v, sz)) (hn : 1 ≤ n) : 1 ≤ sz ∧ sz ≤ n ∧ sz ≤ 4 ∧ v ≤ 1114111 := by
 have fin : ∀ {v' low sz'}, finN v' low sz' = some (v, sz) → sz = sz' ∧ v ≤ 1114111 := by
  intro v' low sz' h
  unfold finN at h
  split at h
  ·injection h with h
   injection h with h1 h2
   omega
  ·cases h
 unfold nextN at h
 split at h
 ·have := fin h; omega
 split at h
 ·cases h
 split at h
 ·split at h
  ·cases h
  ·have := fin h; omega
 split at h
 ·split at h
  ·cases h
  ·have := fin h; omega
 split at h
 ·split at h
  ·cases h
  ·have := fin h; omega
 ·cases h
def stepD (l : List UInt8) : Option (Nat × Nat) := nextN l.length (l.getD 0 0).toNat (l.getD 1 0).toNat (l.getD 2 0).toNat (l.getD 3 0).toNat
theorem stepD_some {l : List UInt8} {v sz : Nat} (h : stepD l = some (v, sz)) (hl : l ≠ []) : 1 ≤ sz ∧ sz ≤ l.length ∧ sz ≤ 4 ∧ v ≤ 1114111 :=
 nextN_some h (List.length_pos_iff.2 hl)
def runesG : Nat → List UInt8 → Option (List Nat)
 | 0, _ => some []
 | n + 1, l => if l = [] then some [] else match stepD l with
  | none => none
  | some (v, sz) => (runesG n (l.drop sz)).map (v :: ·)
def runesD (l : List UInt8) : Option (List Nat) := runesG l.length l
theorem runesG_nil (n : Nat) : runesG n [] = some [] := by cases n <;> rfl
theorem runesG_fuel : ∀ (n m : Nat) (l : List UInt8), l.length ≤ n → l.length ≤ m → runesG n l = runesG m l
 | 0, m, l, hn, _ => by
  obtain rfl : l = [] := List.eq_nil_of_length_eq_zero (by omega)
  rw [runesG_nil, runesG_nil]
 | n + 1, 0, l, _, hm => by
  obtain rfl : l = [] := List.eq_nil_of_length_eq_zero (by omega)
  rw [runesG_nil, runesG_nil]
 | n + 1, m + 1, l, hn, hm => by
  by_cases hl : l = []
  ·subst hl; rw [runesG_nil, runesG_nil]
  ·simp only [runesG, hl, if_false]
   cases h : stepD l with
   | none => rfl
   | some p =>
    obtain ⟨v, sz⟩ := p
    have := stepD_some h hl
    show (runesG n (l.drop sz)).map _ = (runesG m (l.drop sz)).map _
    rw [runesG_fuel n m (l.drop sz) (by rw [List.length_drop]; omega) (by rw [List.length_drop]; omega)]
theorem runesD_nil : runesD [] = some [] := rfl
theorem runesD_step {l : List UInt8} (hl : l ≠ []) : runesD l = match stepD l with
  | none => none
  | some (v, sz) => (runesD (l.drop sz)).map (v :: ·) := by
 unfold runesD
 obtain ⟨n, hn⟩ : ∃ n, l.length = n + 1 := ⟨l.length - 1, by have := List.length_pos_iff.2 hl; omega⟩
 rw [hn]
 simp only [runesG, hl, if_false]
 cases h : stepD l with
 | none => rfl
 | some p =>
  obtain ⟨v, sz⟩ := p
  have := stepD_some h hl
  show (runesG n (l.drop sz)).map _ = (runesG (l.drop sz).length (l.drop sz)).map _
  rw [runesG_fuel n (l.drop sz).length (l.drop sz) (by rw [List.length_drop]; omega) (Nat.le_refl _)]
theorem runesD_bad {l : List UInt8} (hl : l ≠ []) (h : stepD l = none) : runesD l = none := by rw [runesD_step hl, h]
theorem runesD_ok {l : List UInt8} {v sz : Nat} (hl : l ≠ []) (h : stepD l = some (v, sz)) : runesD l = (runesD (l.drop sz)).map (v :: ·) := by rw [runesD_step hl, h]
theorem runesD_valid : ∀ (n : Nat) (l : List UInt8), l.length = n → (runesD l).isSome = validD l := by
 intro n
 induction n using Nat.strongRecOn with
 | _ n ih =>
  intro l hn
  by_cases hl : l = []
  ·subst hl; rfl
  ·have hd := next_decode l.length (l.getD 0 0).toNat (l.getD 1 0).toNat (l.getD 2 0).toNat (l.getD 3 0).toNat (UInt8.toNat_lt _) (UInt8.toNat_lt _) (UInt8.toNat_lt _) (UInt8.toNat_lt _)
   rw [validD_step l hl, decodeL_N]
   generalize decodeN l.length (l.getD 0 0).toNat (l.getD 1 0).toNat (l.getD 2 0).toNat (l.getD 3 0).toNat = D at *
   by_cases hb : D.1 = 65533 ∧ D.2 = 1
   ·rw [if_pos hb] at hd
    rw [if_pos hb, runesD_bad hl hd]
    rfl
   ·rw [if_neg hb] at hd
    have hs : stepD l = some (D.1, D.2) := hd
    have := stepD_some hs hl
    rw [if_neg hb, runesD_ok hl hs, Option.isSome_map]
    exact ih _ (by rw [List.length_drop]; omega) _ rfl
end Go.Proofs.YthjihdpleclejaaGreatDoor
