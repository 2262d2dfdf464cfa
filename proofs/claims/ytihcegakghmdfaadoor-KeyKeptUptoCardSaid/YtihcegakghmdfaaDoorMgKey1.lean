/-
  Walks: the key's writer: lay.
  Walks: the key's writer: null, bool, string.
  Walks: the key's writer: int.
  Walks: the key's writer: list and doc, the value's walk given for the parts.
  Walks: the key's writer: doc, the value's walk given for the parts.
-/
import Derived.Test.YtihcegakghmdfaaDoorMgEnc1
import Derived.Test.YtihcegakghmdfaaDoorMgKeyP
import Derived.Test.YtihcegakghmdfaaDoorMgVal14
namespace Go.Proofs.YtihcegakghmdfaaDoor
open Go.RowKit Go.Proofs

/-- The writer's box lies in block g, what it has written in a row of the call's own behind it. -/
structure Wt (g : Nat) (W0 w : World) (l : List UInt8) (v : Value) : Prop where
  row : w.heap[g]? = some (.cells #[v] 115 (0, 0))
  buf : Buf g 5 W0 w l v
  off : v.ownBlock ≠ some g
theorem Wt.later {g : Nat} {W0 w w' : World} {l : List UInt8} {v : Value} (h : Wt g W0 w l v) (hb : Below w.heap.size w w') : Wt g W0 w' l v :=
  ⟨(hb.block _ (lt_of_block h.row)).trans h.row, h.buf.later hb, h.off⟩
theorem Wt.store {g : Nat} {W0 w w' : World} {l l' : List UInt8} {v v' : Value} (h : Wt g W0 w l v) (hb : Buf g 5 W0 w' l' v') (he : Ext w w' v v') : Wt g W0 (w'.setCell ⟨g, 0, none⟩ v') l' v' := by
  have hlt := lt_of_block h.row
  have hoff := he.ne hlt h.off
  refine ⟨row_setCell ((he.block hlt h.off).trans h.row), ⟨?_, ?_, ?_⟩, hoff⟩
  · refine hb.1.kept (row := some g) ⟨rfl, rfl, rfl, by simp [World.setCell], fun k _ hk => Below.heap_setCell _ _ _ _ (fun e => hk (by rw [e]))⟩ ?_
    exact .inr hoff
  · exact hb.below.setCell (p := ⟨g, 0, none⟩) (Nat.le_refl _) v'
  · simpa [World.setCell] using hb.2.2

/-- What stays while the writer writes: all but its box and its row. -/
structure WK (g : Nat) (w w' : World) (v v' : Value) : Prop where
  size : w.heap.size ≤ w'.heap.size
  block : ∀ k, k < w.heap.size → k ≠ g → v.ownBlock ≠ some k → w'.heap[k]? = w.heap[k]?
  own : ∀ b, v'.ownBlock = some b → v.ownBlock = some b ∨ w.heap.size ≤ b
theorem WK.of_below {g : Nat} {w w' : World} (v : Value) (h : Below w.heap.size w w') : WK g w w' v v := ⟨h.size, fun k hk _ _ => h.block k hk, fun _ h => .inl h⟩
theorem WK.trans {g : Nat} {a b c : World} {u v x : Value} (h : WK g a b u v) (k : WK g b c v x) : WK g a c u x := by
  refine ⟨Nat.le_trans h.size k.size, fun i hi hg hu => ?_, fun i hi => ?_⟩
  · refine (k.block i (Nat.lt_of_lt_of_le hi h.size) hg (fun e => ?_)).trans (h.block i hi hg hu)
    rcases h.own i e with h1 | h1
    · exact hu h1
    · omega
  · rcases k.own i hi with h1 | h1
    · exact h.own i h1
    · exact .inr (Nat.le_trans h.size h1)
theorem WK.later {g : Nat} {a b c : World} {u v : Value} (h : WK g a b u v) (k : Below b.heap.size b c) : WK g a c u v := h.trans (WK.of_below v k)
theorem WK.store {g : Nat} {w w' : World} {v v' : Value} (h : Ext w w' v v') : WK g w (w'.setCell ⟨g, 0, none⟩ v') v v' :=
  ⟨by simpa [World.setCell] using h.size, fun k hk hg hv => (Below.heap_setCell _ _ _ _ (by simpa using hg)).trans (h.block hk hv), h.own⟩

set_option maxRecDepth 100000 in
set_option maxHeartbeats 1000000 in
theorem lay_calls {g : Nat} {W0 w : World} {l : List UInt8} {v : Value} (h : Wt g W0 w l v) (l' : List UInt8) (q c : Nat) (hs : Src w q l') (hl : l.length + l'.length ≤ 140737488355328) :
    Calls Tryd.prog 119 #[.pointer (some ⟨g, 0, none⟩), .slice (some ⟨q, 0, none⟩) l'.length c] w fun e w' => ∃ v', e = .returned (.tuple #[]) ∧ Wt g W0 w' (l ++ l') v' ∧ WK g w w' v v' := by
  obtain ⟨i, hP⟩ := byte8
  have c0 := box_at (j := 0) h.row rfl
  have hs0 := hid hs
  replace h := hid h
  go_enter Tryd.func119, Tryd.ntmps119
  go_wp2_with (at_builtin; (refine wpList_ext_bytes rfl (.tmp 8) (.tmp 9) rfl hP rfl h.out.buf l' q _ c rfl rfl hs0.out hl ?_)
               intro v2 w2 hb2 he2
               have hW := hid (h.out.store hb2 he2)
               have hK := hid (WK.store (g := g) he2)
               obtain ⟨a2, c2, rfl, _, _⟩ := hb2.any
               clear c0
               have r2 := (he2.block (lt_of_block h.out.row) h.out.off).trans h.out.row
               have c0 := box_at (j := 0) r2 rfl
               have f0 := box_free r2 0)
  go_returns
  have hW2 := hW.out
  have hK2 := hK.out
  rw [List.length_append] at hW2 hK2
  exact ⟨_, rfl, hW2, hK2⟩

theorem byte_at (s : ByteArray) (j : Nat) (h : j < s.size) : ∃ b : UInt8, s.data.toList[j]? = some b ∧ (s[j]'h).toNat = b.toNat := by
  have h' : j < s.data.toList.length := by simpa using h
  exact ⟨s.data.toList[j], List.getElem?_eq_getElem h', by simp; rfl⟩
theorem flat_succ {l : List UInt8} {j : Nat} {b : UInt8} (h : l[j]? = some b) : (l.take (j + 1)).flatMap escB = (l.take j).flatMap escB ++ escB b := by
  rw [take_succ_of h, List.flatMap_append]
  simp
theorem flat_le (l : List UInt8) : (l.flatMap escB).length ≤ 2 * l.length := by
  have := (esc_len l).2
  unfold esc at this
  rw [List.length_append] at this
  have e : ([0, 0] : List UInt8).length = 2 := rfl
  omega

set_option maxRecDepth 100000 in
set_option maxHeartbeats 2000000 in
theorem wtext_calls {g : Nat} {W0 w : World} {l : List UInt8} {v : Value} (h : Wt g W0 w l v) (s : ByteArray) (hs : s.size ≤ 17592186044416) (hl : l.length ≤ 70368744177664) :
    Calls Tryd.prog 127 #[.pointer (some ⟨g, 0, none⟩), .string s] w fun e w' => ∃ v', e = .returned (.tuple #[]) ∧ Wt g W0 w' (l ++ esc s.data.toList) v' ∧ WK g w w' v v' := by
  have hly := hid (fun (w' : World) (l1 : List UInt8) (v1 : Value) (h1 : Wt g W0 w' l1 v1) (l' : List UInt8) (q c : Nat) (hs : Src w' q l') (hl : l1.length + l'.length ≤ 140737488355328) => lay_calls h1 l' q c hs hl)
  have hsl : s.data.toList.length = s.size := by simp
  obtain ⟨v0, hv0⟩ : ∃ v0, v0 = v := ⟨_, rfl⟩
  have hk0 : WK g w w v0 v := by rw [hv0]; exact WK.of_below v (Below.refl _ _)
  rw [← hv0]
  clear hv0
  replace h := hid h
  go_enter Tryd.func127, Tryd.ntmps127
  go_wp2_with fail
  go_loopg [4, 7] s.size (fun gh s4 s7 wr => ∃ (j : Nat) (v : Value), gh + j = s.size ∧ s7 = .int .i64 j ∧ Wt g W0 wr (l ++ (s.data.toList.take j).flatMap escB) v ∧ WK g w wr v0 v)
  case atStart => exact ⟨0, v, by omega, rfl, by simpa using h.out, hk0⟩
  case round =>
    clear h
    obtain ⟨j, v, hj, rfl, h, hk⟩ := hrel
    clear hk0
    replace hk := hid hk
    have hfl := flat_le (s.data.toList.take j)
    rw [List.length_take] at hfl
    by_cases hlt : j < s.size
    · obtain ⟨b, hb, hi⟩ := byte_at s j hlt
      have hsx := hid (flat_succ hb)
      have hb8 := b.toNat_lt
      have hi0 : (0 : Int) ≤ (j : Int) := by omega
      have hi1 : (j : Int) < (s.size : Int) := by omega
      replace h := hid h
      replace hb := hid hb
      have hlb : l.length + 2 * j + 4 ≤ 140737488355328 := by omega
      have hlf : (l ++ (s.data.toList.take j).flatMap escB).length ≤ l.length + 2 * j := by rw [List.length_append]; omega
      replace hlf := hid hlf
      clear hfl
      by_cases h0 : b = 0
      · have hbn : (b.toNat : Int) = 0 := by rw [h0]; rfl
        have hbn2 : b.toNat = 0 := by rw [h0]; rfl
        have hes : escB b = [b, 255] := by rw [h0]; rfl
        go_wp2_with fail
        refine (hly.out _ _ _ (h.out.later (below_new _ _)) [b] _ _ (src_new [b] _ (by simp [bcells, hbn2]) rfl) (by have := hlf.out; simp only [List.length_singleton]; omega)).mono ?_
        rintro e w5 ⟨v5, rfl, h5, k5⟩
        replace h5 := hid h5
        have hk5 := hid ((hk.out.later (below_new _ _)).trans k5)
        clear k5
        go_wp2_with fail
        refine (hly.out _ _ _ (h5.out.later (below_new _ _)) [255] _ _ (src_new [255] _ rfl rfl) (by have := hlf.out; rw [List.length_append]; simp only [List.length_singleton]; omega)).mono ?_
        rintro e w6 ⟨v6, rfl, h6, k6⟩
        replace h6 := hid h6
        have hk6 := hid ((hk5.out.later (below_new _ _)).trans k6)
        clear k6
        go_wp2_with fail
        go_roundg (s.size - (j + 1))
        case measure => omega
        case rel => exact ⟨j + 1, v6, by omega, by go_num, by rw [hsx.out, hes]; simpa using h6.out, hk6.out⟩
      · have hbn : ¬ b.toNat = 0 := fun e => h0 (UInt8.toNat_inj.1 e)
        have hbz : ((b.toNat : Int) == 0) = false := by simp [hbn]
        have hes : escB b = [b] := by unfold escB; rw [if_neg h0]
        go_wp2_with fail
        refine (hly.out _ _ _ (h.out.later (below_new _ _)) [b] _ _ (src_new [b] _ rfl rfl) (by have := hlf.out; simp only [List.length_singleton]; omega)).mono ?_
        rintro e w5 ⟨v5, rfl, h5, k5⟩
        replace h5 := hid h5
        have hk5 := hid ((hk.out.later (below_new _ _)).trans k5)
        clear k5
        go_wp2_with fail
        go_roundg (s.size - (j + 1))
        case measure => omega
        case rel => exact ⟨j + 1, v5, by omega, by go_num, by rw [hsx.out, hes]; simpa using h5.out, hk5.out⟩
    · have hj2 : s.data.toList.take j = s.data.toList := List.take_of_length_le (by omega)
      rw [hj2] at h hfl
      have hfl2 := flat_le s.data.toList
      replace h := hid h
      go_wp2_with fail
      refine (hly.out _ _ _ (h.out.later (below_new _ _)) [0, 0] _ _ (src_new [0, 0] _ rfl rfl) (by rw [List.length_append]; simp only [List.length_cons, List.length_nil]; omega)).mono ?_
      rintro e w5 ⟨v5, rfl, h5, k5⟩
      replace h5 := hid h5
      have hk5 := hid ((hk.out.later (below_new _ _)).trans k5)
      clear k5
      go_wp2_with fail
      go_returns
      exact ⟨_, rfl, by unfold esc; simpa using h5.out, hk5.out⟩
end Go.Proofs.YtihcegakghmdfaaDoor

namespace Go.Proofs.YtihcegakghmdfaaDoor
open Go.RowKit Go.Proofs

theorem Wt.old {g : Nat} {W0 w : World} {l : List UInt8} {v : Value} (h : Wt g W0 w l v) {b : Nat} (hb : b < g) : w.heap[b]? = W0.heap[b]? := h.buf.below.block b hb

set_option maxRecDepth 100000 in
theorem wnull_calls {g : Nat} {W0 w : World} {l : List UInt8} {v : Value} (h : Wt g W0 w l v) (cs : List Value) (hc : cs.length = 5) :
    Calls Tryd.prog 113 #[.pointer (some ⟨g, 0, none⟩), .agg cs.toArray] w fun e w' => ∃ v', e = .returned (.tuple #[]) ∧ Wt g W0 w' l v' ∧ WK g w w' v v' := by
  obtain ⟨c0, c1, c2, c3, c4, rfl⟩ : ∃ c0 c1 c2 c3 c4, cs = [c0, c1, c2, c3, c4] := by
    match cs, hc with
    | [a, b, c, d, e], _ => exact ⟨a, b, c, d, e, rfl⟩
  have h1 := hid (h.later (below_new w (.cells #[c0, c1, c2, c3, c4] 25)))
  have hk := hid (WK.of_below (g := g) v (below_new w (.cells #[c0, c1, c2, c3, c4] 25)))
  clear h
  go_enter Tryd.func113, Tryd.ntmps113
  go_wp2_with fail
  go_returns
  exact ⟨_, rfl, h1.out, hk.out⟩

set_option maxRecDepth 100000 in
theorem wbool_calls {g : Nat} {W0 w : World} {l : List UInt8} {v : Value} (h : Wt g W0 w l v) (hl : l.length ≤ 70368744177664) (k n : Int) (s : ByteArray) (x3 x4 : Value) :
    Calls Tryd.prog 114 #[.pointer (some ⟨g, 0, none⟩), .agg #[.int .i64 k, .int .i64 n, .string s, x3, x4]] w fun e w' => ∃ v', e = .returned (.tuple #[]) ∧ Wt g W0 w' (l ++ [UInt8.ofNat (n % 256).toNat]) v' ∧ WK g w w' v v' := by
  have hly := hid (fun (w' : World) (l1 : List UInt8) (v1 : Value) (h1 : Wt g W0 w' l1 v1) (l' : List UInt8) (q c : Nat) (hs : Src w' q l') (hl : l1.length + l'.length ≤ 140737488355328) => lay_calls h1 l' q c hs hl)
  obtain ⟨b, hb⟩ : ∃ b, b = UInt8.ofNat (n % 256).toNat := ⟨_, rfl⟩
  have hz : n % 256 = (b.toNat : Int) := by
    rw [hb, UInt8.toNat_ofNat']
    omega
  have hw : IntKind.u8.wrap n = (b.toNat : Int) := by rw [IntKind.wrap_u8]; exact hz
  rw [← hb]
  have hn := hid (below_new w (.cells #[.int .i64 k, .int .i64 n, .string s, x3, x4] 25))
  replace h := hid h
  clear hb hz
  go_enter Tryd.func114, Tryd.ntmps114
  go_wp2_with fail
  refine (hly.out _ _ _ (h.out.later (hn.out.step (below_new _ _))) [b] _ _ (src_new [b] _ rfl (by simp)) (by simp only [List.length_singleton]; omega)).mono ?_
  rintro e w5 ⟨v5, rfl, h5, k5⟩
  replace h5 := hid h5
  have hk5 := hid ((WK.of_below (g := g) v (hn.out.step (below_new _ _))).trans k5)
  clear k5
  go_wp2_with fail
  go_returns
  exact ⟨_, rfl, h5.out, hk5.out⟩

set_option maxRecDepth 100000 in
theorem wstring_calls {g : Nat} {W0 w : World} {l : List UInt8} {v : Value} (h : Wt g W0 w l v) (hl : l.length ≤ 70368744177664) (k n : Int) (s : ByteArray) (hs : s.size ≤ 17592186044416) (x3 x4 : Value) :
    Calls Tryd.prog 116 #[.pointer (some ⟨g, 0, none⟩), .agg #[.int .i64 k, .int .i64 n, .string s, x3, x4]] w fun e w' => ∃ v', e = .returned (.tuple #[]) ∧ Wt g W0 w' (l ++ esc s.data.toList) v' ∧ WK g w w' v v' := by
  have hn := below_new w (.cells #[.int .i64 k, .int .i64 n, .string s, x3, x4] 25)
  have htx := hid (wtext_calls (h.later hn) s hs hl)
  have hk := hid (WK.of_below (g := g) v hn)
  clear hn h
  go_enter Tryd.func116, Tryd.ntmps116
  go_wp2_with fail
  refine htx.out.mono ?_
  rintro e w5 ⟨v5, rfl, h5, k5⟩
  replace h5 := hid h5
  have hk5 := hid (hk.out.trans k5)
  clear k5
  go_wp2_with fail
  go_returns
  exact ⟨_, rfl, h5.out, hk5.out⟩
end Go.Proofs.YtihcegakghmdfaaDoor

namespace Go.Proofs.YtihcegakghmdfaaDoor
open Go.RowKit Go.Proofs

theorem xor_low {c : Nat} (h : c < 2 ^ 63) : c ^^^ 2 ^ 63 = 2 ^ 63 + c := by
  apply Nat.eq_of_testBit_eq
  intro i
  rw [Nat.testBit_xor, Nat.testBit_two_pow]
  rcases Nat.lt_trichotomy i 63 with hi | hi | hi
  · rw [Nat.testBit_two_pow_add_gt hi, decide_eq_false (by omega : ¬ 63 = i), Bool.xor_false]
  · subst hi
    rw [Nat.testBit_two_pow_add_eq, Nat.testBit_lt_two_pow h]
    simp
  · have h1 : c < 2 ^ i := Nat.lt_trans h (Nat.pow_lt_pow_right (by omega) hi)
    have h2 : 2 ^ 63 + c < 2 ^ i := by
      have : 2 ^ 64 ≤ 2 ^ i := Nat.pow_le_pow_right (by omega) hi
      omega
    rw [Nat.testBit_lt_two_pow h1, Nat.testBit_lt_two_pow h2, decide_eq_false (by omega : ¬ 63 = i), Bool.xor_false]
theorem xor_high {c : Nat} (h : c < 2 ^ 63) : (2 ^ 63 + c) ^^^ 2 ^ 63 = c := by
  rw [← xor_low h, Nat.xor_assoc, Nat.xor_self, Nat.xor_zero]
theorem xor_sign (n : Int) (h : I64 n) : bits .xor .u64 (IntKind.u64.wrap n) 9223372036854775808 = ((n + 9223372036854775808).toNat : Int) := by
  show IntKind.u64.wrap ((BitVec.ofInt 64 (IntKind.u64.wrap n) ^^^ BitVec.ofInt 64 9223372036854775808).toNat : Int) = _
  have e1 : IntKind.u64.wrap n = ((n % 18446744073709551616).toNat : Int) := by rw [IntKind.wrap_u64]; omega
  rw [e1, BitVec.toNat_xor, BitVec.ofInt_natCast, BitVec.toNat_ofNat, show (BitVec.ofInt 64 9223372036854775808).toNat = 2 ^ 63 from rfl, IntKind.wrap_u64]
  unfold I64 at h
  have e2 : (n % 18446744073709551616).toNat % 2 ^ 64 = (n % 18446744073709551616).toNat := by omega
  rw [e2]
  by_cases h0 : 0 ≤ n
  · have e3 : (n % 18446744073709551616).toNat = n.toNat := by omega
    rw [e3, xor_low (by omega)]
    omega
  · have e3 : (n % 18446744073709551616).toNat = 2 ^ 63 + (n + 9223372036854775808).toNat := by omega
    rw [e3, xor_high (by omega)]
    omega

set_option maxRecDepth 100000 in
set_option maxHeartbeats 2000000 in
theorem wint_calls {g : Nat} {W0 w : World} {l : List UInt8} {v : Value} (h : Wt g W0 w l v) (hl : l.length ≤ 70368744177664) (k n : Int) (hn : I64 n) (s : ByteArray) (x3 x4 : Value) :
    Calls Tryd.prog 115 #[.pointer (some ⟨g, 0, none⟩), .agg #[.int .i64 k, .int .i64 n, .string s, x3, x4]] w fun e w' => ∃ v', e = .returned (.tuple #[]) ∧ Wt g W0 w' (l ++ be8 (n + 9223372036854775808).toNat) v' ∧ WK g w w' v v' := by
  have hly := hid (fun (w' : World) (l1 : List UInt8) (v1 : Value) (h1 : Wt g W0 w' l1 v1) (l' : List UInt8) (q c : Nat) (hs : Src w' q l') (hl : l1.length + l'.length ≤ 140737488355328) => lay_calls h1 l' q c hs hl)
  have hx := xor_sign n hn
  obtain ⟨m, hm⟩ : ∃ m, m = (n + 9223372036854775808).toNat := ⟨_, rfl⟩
  have hmb : m < 18446744073709551616 := by unfold I64 at hn; omega
  rw [← hm] at hx ⊢
  have hb := hid (h.later (below_new w (.cells #[.int .i64 k, .int .i64 n, .string s, x3, x4] 25)))
  obtain ⟨v0, hv0⟩ : ∃ v0, v0 = v := ⟨_, rfl⟩
  have hk0 : WK g w (w.alloc (.cells #[.int .i64 k, .int .i64 n, .string s, x3, x4] 25)) v0 v := by rw [hv0]; exact WK.of_below v (below_new _ _)
  rw [← hv0]
  clear hv0
  replace hk0 := hid hk0
  clear h hm
  go_enter Tryd.func115, Tryd.ntmps115
  go_wp2_with fail
  go_loopg [5] 8 (fun gh s5 wr => ∃ (j : Nat) (v : Value), gh + j = 8 ∧ s5 = .int .i64 (7 - (j : Int)) ∧ Wt g W0 wr (l ++ (be8 m).take j) v ∧ WK g w wr v0 v)
  case atStart => exact ⟨0, _, by omega, rfl, by simpa using hb.out, hk0.out⟩
  case round =>
    clear hb hx hk0
    obtain ⟨j, v, hj, rfl, h, hk⟩ := hrel
    replace hk := hid hk
    replace h := hid h
    have hj8 : j = 0 ∨ j = 1 ∨ j = 2 ∨ j = 3 ∨ j = 4 ∨ j = 5 ∨ j = 6 ∨ j = 7 ∨ j = 8 := by omega
    rcases hj8 with rfl | rfl | rfl | rfl | rfl | rfl | rfl | rfl | rfl
    · obtain ⟨b, hb⟩ : ∃ b : UInt8, b = UInt8.ofNat (m / 72057594037927936 % 256) := ⟨_, rfl⟩
      have hbn : (b.toNat : Int) = (m : Int) / 72057594037927936 % 256 := by rw [hb, UInt8.toNat_ofNat']; omega
      have hbt : (be8 m).take 1 = (be8 m).take 0 ++ [b] := by rw [hb]; rfl
      have hw : IntKind.u8.wrap ((m : Int) / 72057594037927936) = (b.toNat : Int) := by rw [IntKind.wrap_u8, hbn]
      replace hbt := hid hbt
      replace hbn := hid hbn
      clear hb
      go_wp2_with fail
      refine (hly.out _ _ _ (h.out.later (below_new _ _)) [b] _ _ (src_new [b] _ (by have := hbn.out; simp only [bcells, List.map_cons, List.map_nil] <;> (congr 3 <;> omega)) rfl) (by rw [List.length_append, List.length_take]; simp only [List.length_singleton]; omega)).mono ?_
      rintro e w5 ⟨v5, rfl, h5, k5⟩
      replace h5 := hid h5
      have hk5 := hid ((hk.out.later (below_new _ _)).trans k5)
      clear k5
      go_wp2_with fail
      go_roundg 7
      case measure => omega
      case rel => exact ⟨1, v5, by omega, by go_num, by rw [hbt.out]; simpa using h5.out, hk5.out⟩
    · obtain ⟨b, hb⟩ : ∃ b : UInt8, b = UInt8.ofNat (m / 281474976710656 % 256) := ⟨_, rfl⟩
      have hbn : (b.toNat : Int) = (m : Int) / 281474976710656 % 256 := by rw [hb, UInt8.toNat_ofNat']; omega
      have hbt : (be8 m).take 2 = (be8 m).take 1 ++ [b] := by rw [hb]; rfl
      have hw : IntKind.u8.wrap ((m : Int) / 281474976710656) = (b.toNat : Int) := by rw [IntKind.wrap_u8, hbn]
      replace hbt := hid hbt
      replace hbn := hid hbn
      clear hb
      go_wp2_with fail
      refine (hly.out _ _ _ (h.out.later (below_new _ _)) [b] _ _ (src_new [b] _ (by have := hbn.out; simp only [bcells, List.map_cons, List.map_nil] <;> (congr 3 <;> omega)) rfl) (by rw [List.length_append, List.length_take]; simp only [List.length_singleton]; omega)).mono ?_
      rintro e w5 ⟨v5, rfl, h5, k5⟩
      replace h5 := hid h5
      have hk5 := hid ((hk.out.later (below_new _ _)).trans k5)
      clear k5
      go_wp2_with fail
      go_roundg 6
      case measure => omega
      case rel => exact ⟨2, v5, by omega, by go_num, by rw [hbt.out]; simpa using h5.out, hk5.out⟩
    · obtain ⟨b, hb⟩ : ∃ b : UInt8, b = UInt8.ofNat (m / 1099511627776 % 256) := ⟨_, rfl⟩
      have hbn : (b.toNat : Int) = (m : Int) / 1099511627776 % 256 := by rw [hb, UInt8.toNat_ofNat']; omega
      have hbt : (be8 m).take 3 = (be8 m).take 2 ++ [b] := by rw [hb]; rfl
      have hw : IntKind.u8.wrap ((m : Int) / 1099511627776) = (b.toNat : Int) := by rw [IntKind.wrap_u8, hbn]
      replace hbt := hid hbt
      replace hbn := hid hbn
      clear hb
      go_wp2_with fail
      refine (hly.out _ _ _ (h.out.later (below_new _ _)) [b] _ _ (src_new [b] _ (by have := hbn.out; simp only [bcells, List.map_cons, List.map_nil] <;> (congr 3 <;> omega)) rfl) (by rw [List.length_append, List.length_take]; simp only [List.length_singleton]; omega)).mono ?_
      rintro e w5 ⟨v5, rfl, h5, k5⟩
      replace h5 := hid h5
      have hk5 := hid ((hk.out.later (below_new _ _)).trans k5)
      clear k5
      go_wp2_with fail
      go_roundg 5
      case measure => omega
      case rel => exact ⟨3, v5, by omega, by go_num, by rw [hbt.out]; simpa using h5.out, hk5.out⟩
    · obtain ⟨b, hb⟩ : ∃ b : UInt8, b = UInt8.ofNat (m / 4294967296 % 256) := ⟨_, rfl⟩
      have hbn : (b.toNat : Int) = (m : Int) / 4294967296 % 256 := by rw [hb, UInt8.toNat_ofNat']; omega
      have hbt : (be8 m).take 4 = (be8 m).take 3 ++ [b] := by rw [hb]; rfl
      have hw : IntKind.u8.wrap ((m : Int) / 4294967296) = (b.toNat : Int) := by rw [IntKind.wrap_u8, hbn]
      replace hbt := hid hbt
      replace hbn := hid hbn
      clear hb
      go_wp2_with fail
      refine (hly.out _ _ _ (h.out.later (below_new _ _)) [b] _ _ (src_new [b] _ (by have := hbn.out; simp only [bcells, List.map_cons, List.map_nil] <;> (congr 3 <;> omega)) rfl) (by rw [List.length_append, List.length_take]; simp only [List.length_singleton]; omega)).mono ?_
      rintro e w5 ⟨v5, rfl, h5, k5⟩
      replace h5 := hid h5
      have hk5 := hid ((hk.out.later (below_new _ _)).trans k5)
      clear k5
      go_wp2_with fail
      go_roundg 4
      case measure => omega
      case rel => exact ⟨4, v5, by omega, by go_num, by rw [hbt.out]; simpa using h5.out, hk5.out⟩
    · obtain ⟨b, hb⟩ : ∃ b : UInt8, b = UInt8.ofNat (m / 16777216 % 256) := ⟨_, rfl⟩
      have hbn : (b.toNat : Int) = (m : Int) / 16777216 % 256 := by rw [hb, UInt8.toNat_ofNat']; omega
      have hbt : (be8 m).take 5 = (be8 m).take 4 ++ [b] := by rw [hb]; rfl
      have hw : IntKind.u8.wrap ((m : Int) / 16777216) = (b.toNat : Int) := by rw [IntKind.wrap_u8, hbn]
      replace hbt := hid hbt
      replace hbn := hid hbn
      clear hb
      go_wp2_with fail
      refine (hly.out _ _ _ (h.out.later (below_new _ _)) [b] _ _ (src_new [b] _ (by have := hbn.out; simp only [bcells, List.map_cons, List.map_nil] <;> (congr 3 <;> omega)) rfl) (by rw [List.length_append, List.length_take]; simp only [List.length_singleton]; omega)).mono ?_
      rintro e w5 ⟨v5, rfl, h5, k5⟩
      replace h5 := hid h5
      have hk5 := hid ((hk.out.later (below_new _ _)).trans k5)
      clear k5
      go_wp2_with fail
      go_roundg 3
      case measure => omega
      case rel => exact ⟨5, v5, by omega, by go_num, by rw [hbt.out]; simpa using h5.out, hk5.out⟩
    · obtain ⟨b, hb⟩ : ∃ b : UInt8, b = UInt8.ofNat (m / 65536 % 256) := ⟨_, rfl⟩
      have hbn : (b.toNat : Int) = (m : Int) / 65536 % 256 := by rw [hb, UInt8.toNat_ofNat']; omega
      have hbt : (be8 m).take 6 = (be8 m).take 5 ++ [b] := by rw [hb]; rfl
      have hw : IntKind.u8.wrap ((m : Int) / 65536) = (b.toNat : Int) := by rw [IntKind.wrap_u8, hbn]
      replace hbt := hid hbt
      replace hbn := hid hbn
      clear hb
      go_wp2_with fail
      refine (hly.out _ _ _ (h.out.later (below_new _ _)) [b] _ _ (src_new [b] _ (by have := hbn.out; simp only [bcells, List.map_cons, List.map_nil] <;> (congr 3 <;> omega)) rfl) (by rw [List.length_append, List.length_take]; simp only [List.length_singleton]; omega)).mono ?_
      rintro e w5 ⟨v5, rfl, h5, k5⟩
      replace h5 := hid h5
      have hk5 := hid ((hk.out.later (below_new _ _)).trans k5)
      clear k5
      go_wp2_with fail
      go_roundg 2
      case measure => omega
      case rel => exact ⟨6, v5, by omega, by go_num, by rw [hbt.out]; simpa using h5.out, hk5.out⟩
    · obtain ⟨b, hb⟩ : ∃ b : UInt8, b = UInt8.ofNat (m / 256 % 256) := ⟨_, rfl⟩
      have hbn : (b.toNat : Int) = (m : Int) / 256 % 256 := by rw [hb, UInt8.toNat_ofNat']; omega
      have hbt : (be8 m).take 7 = (be8 m).take 6 ++ [b] := by rw [hb]; rfl
      have hw : IntKind.u8.wrap ((m : Int) / 256) = (b.toNat : Int) := by rw [IntKind.wrap_u8, hbn]
      replace hbt := hid hbt
      replace hbn := hid hbn
      clear hb
      go_wp2_with fail
      refine (hly.out _ _ _ (h.out.later (below_new _ _)) [b] _ _ (src_new [b] _ (by have := hbn.out; simp only [bcells, List.map_cons, List.map_nil] <;> (congr 3 <;> omega)) rfl) (by rw [List.length_append, List.length_take]; simp only [List.length_singleton]; omega)).mono ?_
      rintro e w5 ⟨v5, rfl, h5, k5⟩
      replace h5 := hid h5
      have hk5 := hid ((hk.out.later (below_new _ _)).trans k5)
      clear k5
      go_wp2_with fail
      go_roundg 1
      case measure => omega
      case rel => exact ⟨7, v5, by omega, by go_num, by rw [hbt.out]; simpa using h5.out, hk5.out⟩
    · obtain ⟨b, hb⟩ : ∃ b : UInt8, b = UInt8.ofNat (m % 256) := ⟨_, rfl⟩
      have hbn : (b.toNat : Int) = (m : Int) % 256 := by rw [hb, UInt8.toNat_ofNat']; omega
      have hbt : (be8 m).take 8 = (be8 m).take 7 ++ [b] := by rw [hb]; rfl
      have hw : IntKind.u8.wrap (m : Int) = (b.toNat : Int) := by rw [IntKind.wrap_u8, hbn]
      replace hbt := hid hbt
      replace hbn := hid hbn
      clear hb
      go_wp2_with fail
      refine (hly.out _ _ _ (h.out.later (below_new _ _)) [b] _ _ (src_new [b] _ (by have := hbn.out; simp only [bcells, List.map_cons, List.map_nil] <;> (congr 3 <;> omega)) rfl) (by rw [List.length_append, List.length_take]; simp only [List.length_singleton]; omega)).mono ?_
      rintro e w5 ⟨v5, rfl, h5, k5⟩
      replace h5 := hid h5
      have hk5 := hid ((hk.out.later (below_new _ _)).trans k5)
      clear k5
      go_wp2_with fail
      go_roundg 0
      case measure => omega
      case rel => exact ⟨8, v5, by omega, by go_num, by rw [hbt.out]; simpa using h5.out, hk5.out⟩
    · go_wp2_with fail
      go_returns
      exact ⟨_, rfl, h.out, hk.out⟩
end Go.Proofs.YtihcegakghmdfaaDoor

namespace Go.Proofs.YtihcegakghmdfaaDoor
open Go.RowKit Go.Proofs

/-- What the writer's value does, for the value x. -/
def WVal (g : Nat) (W0 : World) (x : PVal) : Prop :=
  ∀ (w : World) (l : List UInt8) (v : Value) (cs : List Value), Wt g W0 w l v → Rd w (fun b => b < g) x cs → l.length + x.key.length ≤ 17592186044416 →
    Calls Tryd.prog 87 #[.pointer (some ⟨g, 0, none⟩), .agg cs.toArray] w fun e w' => ∃ v', e = .returned (.tuple #[]) ∧ Wt g W0 w' (l ++ x.key) v' ∧ WK g w w' v v'
theorem Wt.rd {g : Nat} {W0 w w' : World} {l l' : List UInt8} {v v' : Value} {x : PVal} {cs : List Value} (h : Wt g W0 w l v) (h' : Wt g W0 w' l' v') (hr : Rd w (fun b => b < g) x cs) : Rd w' (fun b => b < g) x cs :=
  hr.keep (fun _ h => h) (fun _ hb => (h'.old hb).trans (h.old hb).symm)
theorem Wt.rdL {g : Nat} {W0 w w' : World} {l l' : List UInt8} {v v' : Value} {xs : List PVal} {s : Value} (h : Wt g W0 w l v) (h' : Wt g W0 w' l' v') (hr : RdL w (fun b => b < g) xs s) : RdL w' (fun b => b < g) xs s :=
  hr.keep (fun _ h => h) (fun _ hb => (h'.old hb).trans (h.old hb).symm)
theorem Wt.lt {g : Nat} {W0 w : World} {l : List UInt8} {v : Value} (h : Wt g W0 w l v) : g < w.heap.size := lt_of_block h.row

set_option maxRecDepth 100000 in
set_option maxHeartbeats 4000000 in
theorem wlist_calls {g : Nat} {W0 w : World} {l : List UInt8} {v : Value} (h : Wt g W0 w l v) (k n : Int) (s : ByteArray) (vl : List PVal) (la : Option Addr) (lc : Nat) (x4 : Value) (hv : ∀ x ∈ vl, WVal g W0 x)
    (hL : RdL w (fun b => b < g) vl (.slice la vl.length lc)) (hl : l.length + (keyL vl).length + 1 ≤ 17592186044416) :
    Calls Tryd.prog 117 #[.pointer (some ⟨g, 0, none⟩), .agg #[.int .i64 k, .int .i64 n, .string s, .slice la vl.length lc, x4]] w fun e w' => ∃ v', e = .returned (.tuple #[]) ∧ Wt g W0 w' (l ++ (keyL vl ++ [0])) v' ∧ WK g w w' v v' := by
  have hly := hid (fun (w' : World) (l1 : List UInt8) (v1 : Value) (h1 : Wt g W0 w' l1 v1) (l' : List UInt8) (q c : Nat) (hs : Src w' q l') (hl : l1.length + l'.length ≤ 140737488355328) => lay_calls h1 l' q c hs hl)
  have hll : vl.length ≤ 1759218604441 := by
    obtain ⟨_, _, _, hv, _, h, _⟩ := hL
    exact h.2
  have hn := below_new w (.cells #[.int .i64 k, .int .i64 n, .string s, .slice la vl.length lc, x4] 25)
  have h1 := hid (h.later hn)
  have hL1 := hid (h.rdL h1.out hL)
  have hv' := hid hv
  obtain ⟨v0, hv0⟩ : ∃ v0, v0 = v := ⟨_, rfl⟩
  have hk0 : WK g w (w.alloc (.cells #[.int .i64 k, .int .i64 n, .string s, .slice la vl.length lc, x4] 25)) v0 v := by rw [hv0]; exact WK.of_below v hn
  rw [← hv0]
  clear hv0
  replace hk0 := hid hk0
  clear h hL hn hv
  go_enter Tryd.func117, Tryd.ntmps117
  go_wp2_with fail
  go_loopg [5, 9] vl.length (fun gh s5 s9 wr => ∃ (j : Nat) (v : Value), gh + j = vl.length ∧ s9 = .int .i64 j ∧ Wt g W0 wr (l ++ keyL (vl.take j)) v ∧ WK g w wr v0 v)
  case atStart => exact ⟨0, v, by omega, rfl, by simpa [keyL] using h1.out, hk0.out⟩
  case round =>
    obtain ⟨j, v, hj, rfl, hw, hk⟩ := hrel
    clear hk0
    replace hk := hid hk
    have hL2 := h1.out.rdL hw hL1.out
    by_cases hlt : j < vl.length
    · obtain ⟨x, hx⟩ : ∃ x, vl[j]? = some x := ⟨_, List.getElem?_eq_getElem hlt⟩
      obtain ⟨b, off, cs, rfl, hbg, hc, hr⟩ := hL2.at_ hx
      have hwx := hid (hv'.out x (List.mem_of_getElem? hx))
      unfold WVal at hwx
      have hsx := hid (keyL_succ hx)
      have hszs : l.length + (keyL (vl.take j)).length + 1 + x.key.length ≤ 17592186044416 := by
        have e1 := congrArg List.length hsx.out
        rw [List.length_append, List.length_cons] at e1
        have e2 := congrArg List.length (keyL_append (vl.take (j + 1)) (vl.drop (j + 1)))
        rw [List.take_append_drop, List.length_append] at e2
        omega
      replace hszs := hid hszs
      obtain ⟨xk, xn, xs, xl, xfn, xfv⟩ := x
      obtain ⟨xa, xc, za, zc, rfl, _⟩ := hr.inv
      have c0 := hc 0 _ rfl
      have c1 := hc 1 _ rfl
      have c2 := hc 2 _ rfl
      have c3 := hc 3 _ rfl
      have c4 := hc 4 _ rfl
      rw [Nat.add_zero] at c0
      replace hw := hid hw
      replace hr := hid hr
      clear hc hL2
      go_upto_region 4 with fail
      obtain ⟨w5, hw5⟩ : ∃ w5, w5 = wr.alloc (.cells #[.int .i64 xk, .int .i64 xn, .string xs, .slice xa xl.length xc, .slice za xfv.length zc] 25) := ⟨_, rfl⟩
      have hn5 : Below wr.heap.size wr w5 := by rw [hw5]; exact below_new _ _
      have r5 : Hid (w5.heap[wr.heap.size]? = some (.cells #[.int .i64 xk, .int .i64 xn, .string xs, .slice xa xl.length xc, .slice za xfv.length zc] 25 (0, 0))) := by show _ = _; rw [hw5]; exact heap_alloc_new _ _
      have hsz5 : wr.heap.size < w5.heap.size := by rw [hw5]; simp
      rw [← hw5]
      clear hw5 c0 c1 c2 c3 c4
      have hown : v.ownBlock ≠ some wr.heap.size := fun e => by have := (hw.out.buf.1.lt _ e).2; omega
      have hgr : wr.heap.size ≠ g := by have := hw.out.lt; omega
      have hw5 := hid (hw.out.later (hn5.step (below_new _ (.cells #[.int .u8 1] 5))))
      have hk5 := hid (hk.out.later (hn5.step (below_new _ (.cells #[.int .u8 1] 5))))
      have r5' := hid (((below_new w5 (.cells #[.int .u8 1] 5)).block _ hsz5).trans r5.out)
      clear hn5
      go_wp2_with fail
      refine (hly.out _ _ _ hw5.out [1] _ _ (src_new [1] _ rfl (by simp)) (by have := hszs.out; rw [List.length_append]; simp only [List.length_singleton]; omega)).mono ?_
      rintro e w7 ⟨v7, rfl, h7, k7⟩
      have r7 := hid ((k7.block _ (lt_of_block r5'.out) hgr hown).trans r5'.out)
      have hk7 := hid (hk5.out.trans k7)
      have hr7 := hid (hw.out.rd h7 hr.out)
      replace h7 := hid h7
      clear k7 r5' r5 hk5 hown hgr hsz5
      have a0 := box_at (j := 0) r7.out rfl
      have a1 := box_at (j := 1) r7.out rfl
      have a2 := box_at (j := 2) r7.out rfl
      have a3 := box_at (j := 3) r7.out rfl
      have a4 := box_at (j := 4) r7.out rfl
      go_wp2_with fail
      clear a0 a1 a2 a3 a4
      refine (hwx.out _ _ _ _ h7.out hr7.out (by have := hszs.out; rw [List.length_append, List.length_append]; simp only [List.length_singleton]; omega)).mono ?_
      rintro e w8 ⟨v8, rfl, h8, k8⟩
      have hk8 := hid (hk7.out.trans k8)
      replace h8 := hid h8
      clear k8
      go_wp2_with fail
      go_roundg (vl.length - (j + 1))
      case measure => omega
      case rel => exact ⟨j + 1, v8, by omega, by go_num, by rw [hsx.out]; simpa using h8.out, hk8.out⟩
    · have hj2 : vl.take j = vl := List.take_of_length_le (by omega)
      rw [hj2] at hw
      have hw5 := hid (hw.later (below_new wr (.cells #[.int .u8 0] 5)))
      have hk5 := hid (hk.out.later (below_new wr (.cells #[.int .u8 0] 5)))
      clear hw hL2
      go_wp2_with fail
      refine (hly.out _ _ _ hw5.out [0] _ _ (src_new [0] _ rfl rfl) (by rw [List.length_append]; simp only [List.length_singleton]; omega)).mono ?_
      rintro e w7 ⟨v7, rfl, h7, k7⟩
      have hk7 := hid (hk5.out.trans k7)
      replace h7 := hid h7
      clear k7
      go_wp2_with fail
      go_returns
      exact ⟨_, rfl, by simpa using h7.out, hk7.out⟩
end Go.Proofs.YtihcegakghmdfaaDoor

namespace Go.Proofs.YtihcegakghmdfaaDoor
open Go.RowKit Go.Proofs

theorem Wt.rdF {g : Nat} {W0 w w' : World} {l l' : List UInt8} {v v' : Value} {fn : List ByteArray} {xs : List PVal} {s : Value} (h : Wt g W0 w l v) (h' : Wt g W0 w' l' v') (hr : RdF w (fun b => b < g) fn xs s) : RdF w' (fun b => b < g) fn xs s :=
  hr.keep (fun _ h => h) (fun _ hb => (h'.old hb).trans (h.old hb).symm)

set_option maxRecDepth 100000 in
set_option maxHeartbeats 4000000 in
theorem wdoc_calls {g : Nat} {W0 w : World} {l : List UInt8} {v : Value} (h : Wt g W0 w l v) (k n : Int) (s : ByteArray) (fn : List ByteArray) (vl : List PVal) (la : Option Addr) (lc : Nat) (x3 : Value) (hv : ∀ x ∈ vl, WVal g W0 x)
    (hL : RdF w (fun b => b < g) fn vl (.slice la vl.length lc)) (hl : l.length + (keyF fn vl).length + 1 ≤ 17592186044416) :
    Calls Tryd.prog 118 #[.pointer (some ⟨g, 0, none⟩), .agg #[.int .i64 k, .int .i64 n, .string s, x3, .slice la vl.length lc]] w fun e w' => ∃ v', e = .returned (.tuple #[]) ∧ Wt g W0 w' (l ++ (keyF fn vl ++ [0])) v' ∧ WK g w w' v v' := by
  have hly := hid (fun (w' : World) (l1 : List UInt8) (v1 : Value) (h1 : Wt g W0 w' l1 v1) (l' : List UInt8) (q c : Nat) (hs : Src w' q l') (hl : l1.length + l'.length ≤ 140737488355328) => lay_calls h1 l' q c hs hl)
  have hfn := hL.1
  have htx := hid (fun (w' : World) (l1 : List UInt8) (v1 : Value) (h1 : Wt g W0 w' l1 v1) (s : ByteArray) (hs : s.size ≤ 17592186044416) (hl : l1.length ≤ 70368744177664) => wtext_calls h1 s hs hl)
  have hll : vl.length ≤ 1466015503701 := by
    obtain ⟨_, _, _, _, _, hv, _, h, _⟩ := hL
    exact h.2
  have hn := below_new w (.cells #[.int .i64 k, .int .i64 n, .string s, x3, .slice la vl.length lc] 25)
  have h1 := hid (h.later hn)
  have hL1 := hid (h.rdF h1.out hL)
  have hv' := hid hv
  obtain ⟨v0, hv0⟩ : ∃ v0, v0 = v := ⟨_, rfl⟩
  have hk0 : WK g w (w.alloc (.cells #[.int .i64 k, .int .i64 n, .string s, x3, .slice la vl.length lc] 25)) v0 v := by rw [hv0]; exact WK.of_below v hn
  rw [← hv0]
  clear hv0
  replace hk0 := hid hk0
  clear h hL hn hv
  go_enter Tryd.func118, Tryd.ntmps118
  go_wp2_with fail
  go_loopg [5, 9] vl.length (fun gh s5 s9 wr => ∃ (j : Nat) (v : Value), gh + j = vl.length ∧ s9 = .int .i64 j ∧ Wt g W0 wr (l ++ keyF (fn.take j) (vl.take j)) v ∧ WK g w wr v0 v)
  case atStart => exact ⟨0, v, by omega, rfl, by simpa [keyF] using h1.out, hk0.out⟩
  case round =>
    obtain ⟨j, v, hj, rfl, hw, hk⟩ := hrel
    clear hk0
    replace hk := hid hk
    have hL2 := h1.out.rdF hw hL1.out
    by_cases hlt : j < vl.length
    · obtain ⟨x, hx⟩ : ∃ x, vl[j]? = some x := ⟨_, List.getElem?_eq_getElem hlt⟩
      obtain ⟨nm, hnm⟩ : ∃ nm, fn[j]? = some nm := ⟨_, List.getElem?_eq_getElem (by omega)⟩
      obtain ⟨b, off, cs, rfl, hbg, hc, hr, _⟩ := hL2.at_ hnm hx
      have hwx := hid (hv'.out x (List.mem_of_getElem? hx))
      unfold WVal at hwx
      have hsx := hid (keyF_succ hnm hx)
      have hszs : l.length + (keyF (fn.take j) (vl.take j)).length + 1 + (esc nm.data.toList).length + x.key.length ≤ 17592186044416 := by
        have e1 := congrArg List.length hsx.out
        rw [List.length_append, List.length_cons, List.length_append] at e1
        have e2 := keyF_take_le fn vl (j + 1)
        omega
      have hnms : nm.size ≤ 17592186044416 := by
        have := (esc_len nm.data.toList).1
        have e : nm.data.toList.length = nm.size := by simp
        omega
      replace hszs := hid hszs
      obtain ⟨xk, xn, xs, xl, xfn, xfv⟩ := x
      obtain ⟨xa, xc, za, zc, rfl, _⟩ := hr.inv
      have c0 := hc 0 _ rfl
      have c1 := hc 1 _ rfl
      have c2 := hc 2 _ rfl
      have c3 := hc 3 _ rfl
      have c4 := hc 4 _ rfl
      have c5 := hc 5 _ rfl
      rw [Nat.add_zero] at c0
      replace hw := hid hw
      replace hr := hid hr
      clear hc hL2
      go_upto_region 4 with fail
      obtain ⟨w5, hw5⟩ : ∃ w5, w5 = wr.alloc (.cells #[.string nm, .int .i64 xk, .int .i64 xn, .string xs, .slice xa xl.length xc, .slice za xfv.length zc] 50) := ⟨_, rfl⟩
      have hn5 : Below wr.heap.size wr w5 := by rw [hw5]; exact below_new _ _
      have r5 : Hid (w5.heap[wr.heap.size]? = some (.cells #[.string nm, .int .i64 xk, .int .i64 xn, .string xs, .slice xa xl.length xc, .slice za xfv.length zc] 50 (0, 0))) := by show _ = _; rw [hw5]; exact heap_alloc_new _ _
      have hsz5 : wr.heap.size < w5.heap.size := by rw [hw5]; simp
      rw [← hw5]
      clear hw5 c0 c1 c2 c3 c4 c5
      have hown : v.ownBlock ≠ some wr.heap.size := fun e => by have := (hw.out.buf.1.lt _ e).2; omega
      have hgr : wr.heap.size ≠ g := by have := hw.out.lt; omega
      have hw5 := hid (hw.out.later (hn5.step (below_new _ (.cells #[.int .u8 1] 5))))
      have hk5 := hid (hk.out.later (hn5.step (below_new _ (.cells #[.int .u8 1] 5))))
      have r5' := hid (((below_new w5 (.cells #[.int .u8 1] 5)).block _ hsz5).trans r5.out)
      clear hn5
      go_wp2_with fail
      refine (hly.out _ _ _ hw5.out [1] _ _ (src_new [1] _ rfl (by simp)) (by have := hszs.out; rw [List.length_append]; simp only [List.length_singleton]; omega)).mono ?_
      rintro e w7 ⟨v7, rfl, h7, k7⟩
      have r7 := hid ((k7.block _ (lt_of_block r5'.out) hgr hown).trans r5'.out)
      have hk7 := hid (hk5.out.trans k7)
      have hr7 := hid (hw.out.rd h7 hr.out)
      have hne7 : Hid (v7.ownBlock ≠ some wr.heap.size) := fun e => by
        rcases k7.own _ e with h | h
        · exact hown h
        · have := hsz5; simp at h; omega
      have hgr' := hgr
      replace h7 := hid h7
      clear k7 r5' r5 hk5 hown hgr hsz5
      have a0 := box_at (j := 0) r7.out rfl
      have a1 := box_at (j := 1) r7.out rfl
      have a2 := box_at (j := 2) r7.out rfl
      have a3 := box_at (j := 3) r7.out rfl
      have a4 := box_at (j := 4) r7.out rfl
      have a5 := box_at (j := 5) r7.out rfl
      have hown7 : v7.ownBlock ≠ some wr.heap.size := fun e => hne7.out e
      go_wp2_with fail
      clear a0 a1 a2 a3 a4 a5
      refine (htx.out _ _ _ h7.out nm hnms (by have := hszs.out; rw [List.length_append, List.length_append]; simp only [List.length_singleton]; omega)).mono ?_
      rintro e w9 ⟨v9, rfl, h9, k9⟩
      have r9 := hid ((k9.block _ (lt_of_block r7.out) hgr' hown7).trans r7.out)
      have hk9 := hid (hk7.out.trans k9)
      have hr9 := hid (h7.out.rd h9 hr7.out)
      replace h9 := hid h9
      clear k9
      have a0 := box_at (j := 0) r9.out rfl
      have a1 := box_at (j := 1) r9.out rfl
      have a2 := box_at (j := 2) r9.out rfl
      have a3 := box_at (j := 3) r9.out rfl
      have a4 := box_at (j := 4) r9.out rfl
      have a5 := box_at (j := 5) r9.out rfl
      go_wp2_with fail
      clear a0 a1 a2 a3 a4 a5
      refine (hwx.out _ _ _ _ h9.out hr9.out (by have := hszs.out; rw [List.length_append, List.length_append, List.length_append]; simp only [List.length_singleton]; omega)).mono ?_
      rintro e w8 ⟨v8, rfl, h8, k8⟩
      have hk8 := hid (hk9.out.trans k8)
      replace h8 := hid h8
      clear k8
      go_wp2_with fail
      go_roundg (vl.length - (j + 1))
      case measure => omega
      case rel => exact ⟨j + 1, v8, by omega, by go_num, by rw [hsx.out]; simpa using h8.out, hk8.out⟩
    · have hj2 : vl.take j = vl := List.take_of_length_le (by omega)
      rw [hj2, List.take_of_length_le (by omega : fn.length ≤ j)] at hw
      have hw5 := hid (hw.later (below_new wr (.cells #[.int .u8 0] 5)))
      have hk5 := hid (hk.out.later (below_new wr (.cells #[.int .u8 0] 5)))
      clear hw hL2
      go_wp2_with fail
      refine (hly.out _ _ _ hw5.out [0] _ _ (src_new [0] _ rfl rfl) (by rw [List.length_append]; simp only [List.length_singleton]; omega)).mono ?_
      rintro e w7 ⟨v7, rfl, h7, k7⟩
      have hk7 := hid (hk5.out.trans k7)
      replace h7 := hid h7
      clear k7
      go_wp2_with fail
      go_returns
      exact ⟨_, rfl, by simpa using h7.out, hk7.out⟩
end Go.Proofs.YtihcegakghmdfaaDoor
