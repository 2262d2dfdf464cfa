/-
  Walk: the reference's text within a key.
  Walk: the reference's key of a value.
-/
import Derived.Test.YtihcegakghmdfaaDoorMgKey1
import Derived.Test.YtihcegakghmdfaaDoorMgVal14
import Derived.Test.YtihcegakghmdfaaDoorMgHel
namespace Go.Proofs.YtihcegakghmdfaaDoor
open Go.RowKit Go.Proofs

theorem esc_ne (l : List UInt8) : esc l ≠ [] := by unfold esc; simp
set_option maxRecDepth 100000 in
set_option maxHeartbeats 1000000 in
theorem rtext5_calls (s : ByteArray) (hs : s.size ≤ 17592186044416) (w : World) :
    Calls Tryd.prog 66 #[.string s] w fun e w' => ∃ v, e = .returned v ∧ Made w w' (esc s.data.toList) v := by
  obtain ⟨i, hP⟩ := byte8
  have hsl : s.data.toList.length = s.size := by simp
  obtain ⟨E, hE⟩ : ∃ E, E = esc s.data.toList := ⟨_, rfl⟩
  have hEn : E ≠ [] := by rw [hE]; exact esc_ne _
  rw [← hE]
  replace hE := hid hE
  replace hEn := hid hEn
  go_enter Tryd.func66, Tryd.ntmps66
  go_wp2_with fail
  go_loopg [3, 4] s.size (fun gh s3 s4 wr => ∃ (j : Nat) (v : Value), gh + j = s.size ∧ s4 = .int .i64 j ∧ v = s3 ∧ Hid (Buf w.heap.size 5 w wr ((s.data.toList.take j).flatMap escB) v))
  case atStart => exact ⟨0, _, by omega, rfl, rfl, Buf.nil (Below.refl _ _) (Nat.le_refl _)⟩
  case round =>
    obtain ⟨j, v, hj, rfl, rfl, hb⟩ := hrel
    have hfl := flat_le (s.data.toList.take j)
    rw [List.length_take] at hfl
    by_cases hlt : j < s.size
    · obtain ⟨b, hbj, hi⟩ := byte_at s j hlt
      have hsx := hid (flat_succ hbj)
      have hb8 := b.toNat_lt
      have hi0 : (0 : Int) ≤ (j : Int) := by omega
      have hi1 : (j : Int) < (s.size : Int) := by omega
      have hlf : Hid (((s.data.toList.take j).flatMap escB).length ≤ 2 * j) := by show _ ≤ _; omega
      replace hbj := hid hbj
      clear hfl
      by_cases h0 : b = 0
      · have hbn : (b.toNat : Int) = 0 := by rw [h0]; rfl
        have hbn2 : b.toNat = 0 := by rw [h0]; rfl
        have hes : escB b = [b, 255] := by rw [h0]; rfl
        go_wp2_with (first
          | (at_builtin; (refine wpList_buf_made rfl (.tmp 11) (.tmp 15) rfl hP rfl (hb.out.later (below_new _ _)) [b] wr.heap.size 1 1 rfl rfl (src_new [b] _ (by simp [bcells, hbn2]) rfl) (by have := hlf.out; simp only [List.length_singleton]; omega) ?_); intro v1 w1 hb1)
          | (at_builtin; (refine wpList_buf_made rfl (.tmp 21) (.tmp 22) rfl hP rfl (hb1.later (below_new _ _)) [255] w1.heap.size 1 1 rfl rfl (src_new [255] _ rfl rfl) (by have := hlf.out; simp only [List.length_append, List.length_singleton]; omega) ?_); intro v2 w2 hb2))
        have hb3 := hid hb2
        go_roundg (s.size - (j + 1))
        case measure => omega
        case rel => exact ⟨j + 1, v2, by omega, by go_num, rfl, by rw [hsx.out, hes]; simpa using hb3⟩
      · have hbn : ¬ b.toNat = 0 := fun e => h0 (UInt8.toNat_inj.1 e)
        have hbz : ((b.toNat : Int) == 0) = false := by simp [hbn]
        have hes : escB b = [b] := by unfold escB; rw [if_neg h0]
        go_wp2_with (first
          | (at_builtin; (refine wpList_buf_made rfl (.tmp 11) (.tmp 15) rfl hP rfl (hb.out.later (below_new _ _)) [b] wr.heap.size 1 1 rfl rfl (src_new [b] _ rfl rfl) (by have := hlf.out; simp only [List.length_singleton]; omega) ?_); intro v1 w1 hb1))
        have hb3 := hid hb1
        go_roundg (s.size - (j + 1))
        case measure => omega
        case rel => exact ⟨j + 1, v1, by omega, by go_num, rfl, by rw [hsx.out, hes]; exact hb3⟩
    · have hj2 : s.data.toList.take j = s.data.toList := List.take_of_length_le (by omega)
      rw [hj2] at hb hfl
      have hfl2 := flat_le s.data.toList
      go_wp2_with (first
        | (at_builtin; (refine wpList_buf_made rfl (.tmp 24) (.tmp 25) rfl hP rfl (hb.out.later (below_new _ _)) [0, 0] wr.heap.size 2 2 rfl rfl (src_new [0, 0] _ rfl rfl) (by simp only [List.length_cons, List.length_nil]; omega) ?_); intro v1 w1 hb1))
      go_ret
      have hb2 : Buf w.heap.size 5 w w1 E v1 := by rw [hE.out]; exact hb1
      obtain ⟨g, cap, hv, _⟩ := hb2.form hEn.out
      exact ⟨_, rfl, g, cap, hv, hb2⟩
end Go.Proofs.YtihcegakghmdfaaDoor

namespace Go.Proofs.YtihcegakghmdfaaDoor
open Go.RowKit Go.Proofs

/-- What the drawn regions read: the slice in the value's box, an element's cells. -/
def KoS (A j b o : Nat) (vL v0 v1 v2 v3 v4 : Value) (x : World) : Prop :=
  x.cell? ⟨A, j, none⟩ = some vL ∧ x.cell? ⟨b, o, none⟩ = some v0 ∧ x.cell? ⟨b, o + 1, none⟩ = some v1 ∧ x.cell? ⟨b, o + 2, none⟩ = some v2 ∧ x.cell? ⟨b, o + 3, none⟩ = some v3 ∧ x.cell? ⟨b, o + 4, none⟩ = some v4
def KoT (A b o : Nat) (vF nm : Value) (x : World) : Prop := x.cell? ⟨A, 4, none⟩ = some vF ∧ x.cell? ⟨b, o, none⟩ = some nm

set_option maxRecDepth 100000 in
set_option maxHeartbeats 2000000 in
theorem rof5_calls : ∀ (V : PVal) (w : World) (cs : List Value), V.key.length ≤ 17592186044416 → V.all formedB = true → Rd w (Now w) V cs →
    Calls Tryd.prog 23 #[.agg cs.toArray] w fun e w' => ∃ v, e = .returned v ∧ Made w w' V.key v := by
  intro V
  induction hN : V.nodes using Nat.strongRecOn generalizing V with
  | _ N ih =>
  subst hN
  intro w cs hlen hform hV
  obtain ⟨i, hP⟩ := byte8
  have htx := hid (fun (s : ByteArray) (hs : s.size ≤ 17592186044416) (w : World) => rtext5_calls s hs w)
  obtain ⟨k, n, s, l, fn, fv⟩ := V
  have hA : (k = 5 → ∀ x ∈ l, x.all formedB = true) ∧ (k = 6 → ∀ x ∈ fv, x.all formedB = true) := by
    constructor
    · intro h5; subst h5
      simp only [PVal.all, allL_eq, Bool.and_eq_true, if_true, List.all_eq_true] at hform
      exact hform.2
    · intro h6; subst h6
      simp only [PVal.all, allL_eq, Bool.and_eq_true, List.all_eq_true, show ¬ (6 : Int) = 5 by omega, if_false, if_true] at hform
      exact hform.2
  have hfm : formedB (.mk k n s l fn fv) = true := by simp only [PVal.all, Bool.and_eq_true] at hform; exact hform.1
  have hk16 : 1 ≤ k ∧ k ≤ 6 := by simp only [formedB, Bool.and_eq_true, decide_eq_true_eq] at hfm; exact hfm.1.1.1.1.1.1
  clear hfm hform
  obtain ⟨la, lc, fa, fc, rfl, hk, hn, hs, hlc, hlm, hfc, hfmm, hL, hF⟩ := hV.inv
  clear hV
  have hfl := hid hF.1
  have hL0 := hid hL
  have hF0 := hid hF
  obtain ⟨b0, hb0⟩ : ∃ b : UInt8, b = UInt8.ofNat (10 * k % 256).toNat := ⟨_, rfl⟩
  have hz0 : Hid (10 * k = b0.toNat) := by show _ = _; rw [hb0, UInt8.toNat_ofNat']; omega
  have hr : Hid (PVal.key (.mk k n s l fn fv) = b0 :: (if k = 2 then [UInt8.ofNat (n % 256).toNat] else if k = 3 then be8 (n + 9223372036854775808).toNat else if k = 4 then esc s.data.toList
      else if k = 5 then keyL l ++ [0] else if k = 6 then keyF fn fv ++ [0] else [])) := by show _ = _; rw [PVal.key, hb0]
  have hne : PVal.key (.mk k n s l fn fv) ≠ [] := (by simp [PVal.key])
  generalize PVal.key (.mk k n s l fn fv) = R at *
  replace hne := hid hne
  clear hb0 hL hF
  have e64 : IntKind.i64.wrap (10 * k) = 10 * k := IntWalk.i64_in _ (by omega)
  have e8 : IntKind.u8.wrap (10 * k) = (b0.toNat : Int) := by rw [IntKind.wrap_u8]; have := hz0.out; omega
  have hnew : Hid (∀ (W : World) (g : Nat) (c : Int), g = W.heap.size → c = (b0.toNat : Int) → Buf W.heap.size 5 W (W.alloc (.cells #[.int .u8 c] 5)) [b0] (.slice (some ⟨g, 0, none⟩) 1 1)) := fun W g c hg hc => by
    subst hc hg
    exact buf_new [b0] (Below.refl _ _) (Nat.le_refl _) rfl (by simp [maxLen])
  have hk6 : k = 1 ∨ k = 2 ∨ k = 3 ∨ k = 4 ∨ k = 5 ∨ k = 6 := by omega
  clear hk16
  rcases hk6 with rfl | rfl | rfl | rfl | rfl | rfl
  · replace hr : Hid (R = [b0]) := hr.out
    have hb1 := hnew.out (w.alloc (.cells #[.int .i64 1, .int .i64 n, .string s, .slice la l.length lc, .slice fa fv.length fc] 25)) (w.heap.size + 1) 10 (by simp) (show (10 : Int) = b0.toNat by have := hz0.out; omega)
    go_enter Tryd.func23, Tryd.ntmps23
    go_wp2_with fail
    go_ret
    rw [← hr.out] at hb1
    exact ⟨_, rfl, made_of hb1 hne.out⟩
  · obtain ⟨b1, hbb⟩ : ∃ b : UInt8, b = UInt8.ofNat (n % 256).toNat := ⟨_, rfl⟩
    have hz1 : Hid (n % 256 = b1.toNat) := by show _ = _; rw [hbb, UInt8.toNat_ofNat']; omega
    replace hr : Hid (R = [b0] ++ [b1]) := by show _ = _; rw [hr.out, hbb]; simp
    clear hbb
    have hb1 := hnew.out (w.alloc (.cells #[.int .i64 2, .int .i64 n, .string s, .slice la l.length lc, .slice fa fv.length fc] 25)) (w.heap.size + 1) 20 (by simp) (show (20 : Int) = b0.toNat by have := hz0.out; omega)
    go_enter Tryd.func23, Tryd.ntmps23
    go_wp2_with (first
      | (at_builtin; (refine wpList_buf_made rfl _ _ rfl hP rfl (hb1.later (below_new _ _)) [b1] (w.heap.size + 1 + 1) 1 1 rfl rfl (src_new [b1] _ (by first | (simp only [bcells, List.map_cons, List.map_nil, ← hz1.out]; done) | (simp only [bcells, List.map_cons, List.map_nil, ← hz1.out, IntKind.wrap_u8]; done)) (by simp)) (by simp) ?_); intro v' w2 hb2))
    go_ret
    rw [← hr.out] at hb2
    exact ⟨_, rfl, made_of hb2 hne.out⟩
  · have hx := xor_sign n hn
    obtain ⟨m, hm⟩ : ∃ m, m = (n + 9223372036854775808).toNat := ⟨_, rfl⟩
    have hmb : m < 18446744073709551616 := by omega
    replace hr : Hid (R = [b0] ++ be8 m) := by show _ = _; rw [hr.out, ← hm]; rfl
    rw [← hm] at hx
    clear hm
    have hb1 := hid (hnew.out (w.alloc (.cells #[.int .i64 3, .int .i64 n, .string s, .slice la l.length lc, .slice fa fv.length fc] 25)) (w.heap.size + 1) 30 (by simp) (show (30 : Int) = b0.toNat by have := hz0.out; omega))
    go_enter Tryd.func23, Tryd.ntmps23
    go_wp2_with fail
    go_loopg [3, 5] 8 (fun gh s3 s5 wr => ∃ (j : Nat) (v : Value), gh + j = 8 ∧ s5 = .int .i64 (7 - (j : Int)) ∧ v = s3 ∧ Hid (Buf (w.alloc (.cells #[.int .i64 3, .int .i64 n, .string s, .slice la l.length lc, .slice fa fv.length fc] 25)).heap.size 5 (w.alloc (.cells #[.int .i64 3, .int .i64 n, .string s, .slice la l.length lc, .slice fa fv.length fc] 25)) wr ([b0] ++ (be8 m).take j) v))
    case atStart => exact ⟨0, _, by omega, rfl, rfl, hb1⟩
    case round =>
    clear hb1 hx
    obtain ⟨j, v, hj, rfl, rfl, hb⟩ := hrel
    have hj8 : j = 0 ∨ j = 1 ∨ j = 2 ∨ j = 3 ∨ j = 4 ∨ j = 5 ∨ j = 6 ∨ j = 7 ∨ j = 8 := by omega
    rcases hj8 with rfl | rfl | rfl | rfl | rfl | rfl | rfl | rfl | rfl
    · obtain ⟨b, hbb⟩ : ∃ b : UInt8, b = UInt8.ofNat (m / 72057594037927936 % 256) := ⟨_, rfl⟩
      have hbn : (b.toNat : Int) = (m : Int) / 72057594037927936 % 256 := by rw [hbb, UInt8.toNat_ofNat']; omega
      have hbt : (be8 m).take 1 = (be8 m).take 0 ++ [b] := by rw [hbb]; rfl
      have hw : IntKind.u8.wrap ((m : Int) / 72057594037927936) = (b.toNat : Int) := by rw [IntKind.wrap_u8, hbn]
      have hlj : Hid (([b0] ++ (be8 m).take 0).length = 1) := by show _ = _; simp [be8]
      replace hbt := hid hbt
      replace hbn := hid hbn
      clear hbb
      go_wp2_with (first
        | (at_builtin; (refine wpList_buf_made rfl (.tmp 33) (.tmp 40) rfl hP rfl (hb.out.later (below_new _ _)) [b] wr.heap.size 1 1 rfl rfl (src_new [b] _ (by have := hbn.out; simp only [bcells, List.map_cons, List.map_nil] <;> (congr 3 <;> omega)) rfl) (by rw [hlj.out]; simp) ?_); intro v1 w2 hb1))
      have hb3 := hid hb1
      go_roundg 7
      case measure => omega
      case rel => exact ⟨1, v1, by omega, by go_num, rfl, by rw [hbt.out]; simpa using hb3⟩
    · obtain ⟨b, hbb⟩ : ∃ b : UInt8, b = UInt8.ofNat (m / 281474976710656 % 256) := ⟨_, rfl⟩
      have hbn : (b.toNat : Int) = (m : Int) / 281474976710656 % 256 := by rw [hbb, UInt8.toNat_ofNat']; omega
      have hbt : (be8 m).take 2 = (be8 m).take 1 ++ [b] := by rw [hbb]; rfl
      have hw : IntKind.u8.wrap ((m : Int) / 281474976710656) = (b.toNat : Int) := by rw [IntKind.wrap_u8, hbn]
      have hlj : Hid (([b0] ++ (be8 m).take 1).length = 2) := by show _ = _; simp [be8]
      replace hbt := hid hbt
      replace hbn := hid hbn
      clear hbb
      go_wp2_with (first
        | (at_builtin; (refine wpList_buf_made rfl (.tmp 33) (.tmp 40) rfl hP rfl (hb.out.later (below_new _ _)) [b] wr.heap.size 1 1 rfl rfl (src_new [b] _ (by have := hbn.out; simp only [bcells, List.map_cons, List.map_nil] <;> (congr 3 <;> omega)) rfl) (by rw [hlj.out]; simp) ?_); intro v1 w2 hb1))
      have hb3 := hid hb1
      go_roundg 6
      case measure => omega
      case rel => exact ⟨2, v1, by omega, by go_num, rfl, by rw [hbt.out]; simpa using hb3⟩
    · obtain ⟨b, hbb⟩ : ∃ b : UInt8, b = UInt8.ofNat (m / 1099511627776 % 256) := ⟨_, rfl⟩
      have hbn : (b.toNat : Int) = (m : Int) / 1099511627776 % 256 := by rw [hbb, UInt8.toNat_ofNat']; omega
      have hbt : (be8 m).take 3 = (be8 m).take 2 ++ [b] := by rw [hbb]; rfl
      have hw : IntKind.u8.wrap ((m : Int) / 1099511627776) = (b.toNat : Int) := by rw [IntKind.wrap_u8, hbn]
      have hlj : Hid (([b0] ++ (be8 m).take 2).length = 3) := by show _ = _; simp [be8]
      replace hbt := hid hbt
      replace hbn := hid hbn
      clear hbb
      go_wp2_with (first
        | (at_builtin; (refine wpList_buf_made rfl (.tmp 33) (.tmp 40) rfl hP rfl (hb.out.later (below_new _ _)) [b] wr.heap.size 1 1 rfl rfl (src_new [b] _ (by have := hbn.out; simp only [bcells, List.map_cons, List.map_nil] <;> (congr 3 <;> omega)) rfl) (by rw [hlj.out]; simp) ?_); intro v1 w2 hb1))
      have hb3 := hid hb1
      go_roundg 5
      case measure => omega
      case rel => exact ⟨3, v1, by omega, by go_num, rfl, by rw [hbt.out]; simpa using hb3⟩
    · obtain ⟨b, hbb⟩ : ∃ b : UInt8, b = UInt8.ofNat (m / 4294967296 % 256) := ⟨_, rfl⟩
      have hbn : (b.toNat : Int) = (m : Int) / 4294967296 % 256 := by rw [hbb, UInt8.toNat_ofNat']; omega
      have hbt : (be8 m).take 4 = (be8 m).take 3 ++ [b] := by rw [hbb]; rfl
      have hw : IntKind.u8.wrap ((m : Int) / 4294967296) = (b.toNat : Int) := by rw [IntKind.wrap_u8, hbn]
      have hlj : Hid (([b0] ++ (be8 m).take 3).length = 4) := by show _ = _; simp [be8]
      replace hbt := hid hbt
      replace hbn := hid hbn
      clear hbb
      go_wp2_with (first
        | (at_builtin; (refine wpList_buf_made rfl (.tmp 33) (.tmp 40) rfl hP rfl (hb.out.later (below_new _ _)) [b] wr.heap.size 1 1 rfl rfl (src_new [b] _ (by have := hbn.out; simp only [bcells, List.map_cons, List.map_nil] <;> (congr 3 <;> omega)) rfl) (by rw [hlj.out]; simp) ?_); intro v1 w2 hb1))
      have hb3 := hid hb1
      go_roundg 4
      case measure => omega
      case rel => exact ⟨4, v1, by omega, by go_num, rfl, by rw [hbt.out]; simpa using hb3⟩
    · obtain ⟨b, hbb⟩ : ∃ b : UInt8, b = UInt8.ofNat (m / 16777216 % 256) := ⟨_, rfl⟩
      have hbn : (b.toNat : Int) = (m : Int) / 16777216 % 256 := by rw [hbb, UInt8.toNat_ofNat']; omega
      have hbt : (be8 m).take 5 = (be8 m).take 4 ++ [b] := by rw [hbb]; rfl
      have hw : IntKind.u8.wrap ((m : Int) / 16777216) = (b.toNat : Int) := by rw [IntKind.wrap_u8, hbn]
      have hlj : Hid (([b0] ++ (be8 m).take 4).length = 5) := by show _ = _; simp [be8]
      replace hbt := hid hbt
      replace hbn := hid hbn
      clear hbb
      go_wp2_with (first
        | (at_builtin; (refine wpList_buf_made rfl (.tmp 33) (.tmp 40) rfl hP rfl (hb.out.later (below_new _ _)) [b] wr.heap.size 1 1 rfl rfl (src_new [b] _ (by have := hbn.out; simp only [bcells, List.map_cons, List.map_nil] <;> (congr 3 <;> omega)) rfl) (by rw [hlj.out]; simp) ?_); intro v1 w2 hb1))
      have hb3 := hid hb1
      go_roundg 3
      case measure => omega
      case rel => exact ⟨5, v1, by omega, by go_num, rfl, by rw [hbt.out]; simpa using hb3⟩
    · obtain ⟨b, hbb⟩ : ∃ b : UInt8, b = UInt8.ofNat (m / 65536 % 256) := ⟨_, rfl⟩
      have hbn : (b.toNat : Int) = (m : Int) / 65536 % 256 := by rw [hbb, UInt8.toNat_ofNat']; omega
      have hbt : (be8 m).take 6 = (be8 m).take 5 ++ [b] := by rw [hbb]; rfl
      have hw : IntKind.u8.wrap ((m : Int) / 65536) = (b.toNat : Int) := by rw [IntKind.wrap_u8, hbn]
      have hlj : Hid (([b0] ++ (be8 m).take 5).length = 6) := by show _ = _; simp [be8]
      replace hbt := hid hbt
      replace hbn := hid hbn
      clear hbb
      go_wp2_with (first
        | (at_builtin; (refine wpList_buf_made rfl (.tmp 33) (.tmp 40) rfl hP rfl (hb.out.later (below_new _ _)) [b] wr.heap.size 1 1 rfl rfl (src_new [b] _ (by have := hbn.out; simp only [bcells, List.map_cons, List.map_nil] <;> (congr 3 <;> omega)) rfl) (by rw [hlj.out]; simp) ?_); intro v1 w2 hb1))
      have hb3 := hid hb1
      go_roundg 2
      case measure => omega
      case rel => exact ⟨6, v1, by omega, by go_num, rfl, by rw [hbt.out]; simpa using hb3⟩
    · obtain ⟨b, hbb⟩ : ∃ b : UInt8, b = UInt8.ofNat (m / 256 % 256) := ⟨_, rfl⟩
      have hbn : (b.toNat : Int) = (m : Int) / 256 % 256 := by rw [hbb, UInt8.toNat_ofNat']; omega
      have hbt : (be8 m).take 7 = (be8 m).take 6 ++ [b] := by rw [hbb]; rfl
      have hw : IntKind.u8.wrap ((m : Int) / 256) = (b.toNat : Int) := by rw [IntKind.wrap_u8, hbn]
      have hlj : Hid (([b0] ++ (be8 m).take 6).length = 7) := by show _ = _; simp [be8]
      replace hbt := hid hbt
      replace hbn := hid hbn
      clear hbb
      go_wp2_with (first
        | (at_builtin; (refine wpList_buf_made rfl (.tmp 33) (.tmp 40) rfl hP rfl (hb.out.later (below_new _ _)) [b] wr.heap.size 1 1 rfl rfl (src_new [b] _ (by have := hbn.out; simp only [bcells, List.map_cons, List.map_nil] <;> (congr 3 <;> omega)) rfl) (by rw [hlj.out]; simp) ?_); intro v1 w2 hb1))
      have hb3 := hid hb1
      go_roundg 1
      case measure => omega
      case rel => exact ⟨7, v1, by omega, by go_num, rfl, by rw [hbt.out]; simpa using hb3⟩
    · obtain ⟨b, hbb⟩ : ∃ b : UInt8, b = UInt8.ofNat (m % 256) := ⟨_, rfl⟩
      have hbn : (b.toNat : Int) = (m : Int) % 256 := by rw [hbb, UInt8.toNat_ofNat']; omega
      have hbt : (be8 m).take 8 = (be8 m).take 7 ++ [b] := by rw [hbb]; rfl
      have hw : IntKind.u8.wrap ((m : Int)) = (b.toNat : Int) := by rw [IntKind.wrap_u8, hbn]
      have hlj : Hid (([b0] ++ (be8 m).take 7).length = 8) := by show _ = _; simp [be8]
      replace hbt := hid hbt
      replace hbn := hid hbn
      clear hbb
      go_wp2_with (first
        | (at_builtin; (refine wpList_buf_made rfl (.tmp 33) (.tmp 40) rfl hP rfl (hb.out.later (below_new _ _)) [b] wr.heap.size 1 1 rfl rfl (src_new [b] _ (by have := hbn.out; simp only [bcells, List.map_cons, List.map_nil] <;> (congr 3 <;> omega)) rfl) (by rw [hlj.out]; simp) ?_); intro v1 w2 hb1))
      have hb3 := hid hb1
      go_roundg 0
      case measure => omega
      case rel => exact ⟨8, v1, by omega, by go_num, rfl, by rw [hbt.out]; simpa using hb3⟩
    · go_wp2_with fail
      go_ret
      have hb2 := hb.out
      rw [show (be8 m).take 8 = be8 m from rfl, ← hr.out] at hb2
      exact ⟨_, rfl, made_of hb2 hne.out⟩
  · replace hr : Hid (R = [b0] ++ esc s.data.toList) := hr.out
    have hlen2 : 1 + (esc s.data.toList).length ≤ 17592186044416 := by
      rw [hr.out, List.length_append] at hlen
      simpa using hlen
    have hs4 : s.size ≤ 17592186044416 := by
      have h1 := (esc_len s.data.toList).1
      have h2 : s.data.toList.length = s.size := by simp
      omega
    have hb1 := hid (hnew.out (w.alloc (.cells #[.int .i64 4, .int .i64 n, .string s, .slice la l.length lc, .slice fa fv.length fc] 25)) (w.heap.size + 1) 40 (by simp) (show (40 : Int) = b0.toNat by have := hz0.out; omega))
    have hkS : Hid (∀ w', Below (w.alloc (.cells #[.int .i64 4, .int .i64 n, .string s, .slice la l.length lc, .slice fa fv.length fc] 25)).heap.size (w.alloc (.cells #[.int .i64 4, .int .i64 n, .string s, .slice la l.length lc, .slice fa fv.length fc] 25)) w' → w'.cell? ⟨w.heap.size, 2, none⟩ = some (.string s)) := fun w' h => box_cell h rfl
    have htS := hid (htx.out s hs4)
    generalize esc s.data.toList = ES at *
    go_enter Tryd.func23, Tryd.ntmps23
    go_wp2_with fail
    refine (htS.out _).mono ?_
    rintro e w2 ⟨v2, rfl, g2, c2, rfl, hm2⟩
    go_wp2_with (first
      | (at_builtin; (refine wpList_buf_made rfl _ _ rfl hP rfl (hb1.out.later hm2.below) ES g2 _ _ rfl rfl hm2.src (by simp; omega) ?_); intro v' w3 hb3))
    go_ret
    rw [← hr.out] at hb3
    exact ⟨_, rfl, made_of hb3 hne.out⟩
  · replace hr : Hid (R = ([b0] ++ keyL l) ++ [0]) := by show _ = _; rw [hr.out]; simp
    have hlen2 : Hid ((keyL l).length + 2 ≤ 17592186044416) := by
      show _ ≤ _
      rw [hr.out] at hlen
      simp at hlen
      omega
    have hfL := hid (hA.1 rfl)
    have hb1 := hid (hnew.out (w.alloc (.cells #[.int .i64 5, .int .i64 n, .string s, .slice la l.length lc, .slice fa fv.length fc] 25)) (w.heap.size + 1) 50 (by simp) (show (50 : Int) = b0.toNat by have := hz0.out; omega))
    clear hlen hA
    go_enter Tryd.func23, Tryd.ntmps23
    go_wp2_with fail
    go_loopg [3, 6] l.length (fun q o i wr => ∃ (j : Nat) (v : Value), q + j = l.length ∧ i = .int .i64 j ∧ v = o ∧ Hid (Buf (w.alloc (.cells #[.int .i64 5, .int .i64 n, .string s, .slice la l.length lc, .slice fa fv.length fc] 25)).heap.size 5 (w.alloc (.cells #[.int .i64 5, .int .i64 n, .string s, .slice la l.length lc, .slice fa fv.length fc] 25)) wr ([b0] ++ keyL (l.take j)) v))
    case atStart => exact ⟨0, _, by omega, rfl, rfl, hb1⟩
    case round =>
      clear hb1
      obtain ⟨j, v, hj, rfl, rfl, hbr⟩ := hrel
      have a3 := box_cell (j := 3) hbr.out.below rfl
      by_cases hlt : j < l.length
      · obtain ⟨x, hx⟩ : ∃ x, l[j]? = some x := ⟨_, List.getElem?_eq_getElem hlt⟩
        obtain ⟨b, off, xs, rfl, hxS, hxc, hxr⟩ := hL0.out.at_ hx
        have hxn := nodes_mem (List.mem_of_getElem? hx)
        have hsx := hid (keyL_succ hx)
        have hle := keyL_take_le l (j + 1)
        rw [hsx.out, List.length_append, List.length_cons] at hle
        have hcx := hid (fun w cs h => ih x.nodes (by simp only [PVal.nodes]; omega) x rfl w cs (by have := hlen2.out; omega) (hfL.out x (List.mem_of_getElem? hx)) h)
        have hle2 : Hid ((keyL (l.take j)).length + x.key.length + 4 ≤ 17592186044420) := by show _ ≤ _; have := hlen2.out; omega
        generalize x.key = ex at *
        generalize keyL (l.take j) = done at *
        clear hx hle
        obtain ⟨xk, xn, xsx, xl, xfn, xfv⟩ := x
        obtain ⟨xla, xlc, xfa, xfc, rfl, _⟩ := hxr.inv
        have hS : Hid (∀ w', Below (w.alloc (.cells #[.int .i64 5, .int .i64 n, .string s, .slice (some ⟨b, off, none⟩) l.length lc, .slice fa fv.length fc] 25)).heap.size (w.alloc (.cells #[.int .i64 5, .int .i64 n, .string s, .slice (some ⟨b, off, none⟩) l.length lc, .slice fa fv.length fc] 25)) w' → KoS w.heap.size 3 b (off + j * 5) (.slice (some ⟨b, off, none⟩) l.length lc) (.int .i64 xk) (.int .i64 xn) (.string xsx) (.slice xla xl.length xlc) (.slice xfa xfv.length xfc) w') := fun w' h =>
          ⟨box_cell h rfl, five (cells_later ((below_new _ _).step h) hxS hxc)⟩
        have p1 : (0 : Int) ≤ (j : Int) := by omega
        have l1 : (j : Int) < (l.length : Int) := by omega
        clear hxc
        replace hxr := hid hxr
        go_upto_region 17 with fail
        clear a3
        refine wp_region_T (KoS w.heap.size 3 b (off + j * 5) (.slice (some ⟨b, off, none⟩) l.length lc) (.int .i64 xk) (.int .i64 xn) (.string xsx) (.slice xla xl.length xlc) (.slice xfa xfv.length xfc)) 10 (by kernel_rfl) ?_
        have hS0 := hS.out wr.drew hbr.out.below.drew
        ((refine wpAnyT_take (i := 0) (v := ?_) rfl (by kernel_rfl) (by kernel_rfl) (by kernel_rfl) (by kernel_rfl) (by exact fun _ _ _ h => h) (Or.inl ⟨by kernel_rfl, ?_⟩) hS0 ?_; rotate_left 1; focus (intro w hSw; unfold KoS at hSw; (try dsimp only at hSw); go_simp; try with_reducible rfl); (try simp only [List.getElem_toArray, List.getElem_cons_zero, List.getElem_cons_succ, Act.put, List.setIfInBounds_toArray, List.set_cons_zero, List.set_cons_succ])); (refine wpAnyT_take (i := 3) (v := ?_) rfl (by kernel_rfl) (by kernel_rfl) (by kernel_rfl) (by kernel_rfl) (by exact fun _ _ _ h => h) (Or.inl ⟨by kernel_rfl, ?_⟩) hS0 ?_; rotate_left 1; focus (intro w hSw; unfold KoS at hSw; (try dsimp only at hSw); go_simp; try with_reducible rfl); (try simp only [List.getElem_toArray, List.getElem_cons_zero, List.getElem_cons_succ, Act.put, List.setIfInBounds_toArray, List.set_cons_zero, List.set_cons_succ])); (refine wpAnyT_take (i := 4) (v := ?_) rfl (by kernel_rfl) (by kernel_rfl) (by kernel_rfl) (by kernel_rfl) (by exact fun _ _ _ h => h) (Or.inl ⟨by kernel_rfl, ?_⟩) hS0 ?_; rotate_left 1; focus (intro w hSw; unfold KoS at hSw; (try dsimp only at hSw); go_simp; try with_reducible rfl); (try simp only [List.getElem_toArray, List.getElem_cons_zero, List.getElem_cons_succ, Act.put, List.setIfInBounds_toArray, List.set_cons_zero, List.set_cons_succ])); (refine wpAnyT_take (i := 5) (v := ?_) rfl (by kernel_rfl) (by kernel_rfl) (by kernel_rfl) (by kernel_rfl) (by exact fun _ _ _ h => h) (Or.inl ⟨by kernel_rfl, ?_⟩) hS0 ?_; rotate_left 1; focus (intro w hSw; unfold KoS at hSw; (try dsimp only at hSw); go_simp; try with_reducible rfl); (try simp only [List.getElem_toArray, List.getElem_cons_zero, List.getElem_cons_succ, Act.put, List.setIfInBounds_toArray, List.set_cons_zero, List.set_cons_succ])); (refine wpAnyT_take (i := 6) (v := ?_) rfl (by kernel_rfl) (by kernel_rfl) (by kernel_rfl) (by kernel_rfl) (by exact fun _ _ _ h => h) (Or.inl ⟨by kernel_rfl, ?_⟩) hS0 ?_; rotate_left 1; focus (intro w hSw; unfold KoS at hSw; (try dsimp only at hSw); go_simp; try with_reducible rfl); (try simp only [List.getElem_toArray, List.getElem_cons_zero, List.getElem_cons_succ, Act.put, List.setIfInBounds_toArray, List.set_cons_zero, List.set_cons_succ])); (refine wpAnyT_take (i := 7) (v := ?_) rfl (by kernel_rfl) (by kernel_rfl) (by kernel_rfl) (by kernel_rfl) (by exact fun _ _ _ h => h) (Or.inl ⟨by kernel_rfl, ?_⟩) hS0 ?_; rotate_left 1; focus (intro w hSw; unfold KoS at hSw; (try dsimp only at hSw); go_simp; try with_reducible rfl); (try simp only [List.getElem_toArray, List.getElem_cons_zero, List.getElem_cons_succ, Act.put, List.setIfInBounds_toArray, List.set_cons_zero, List.set_cons_succ])))
        refine wpAnyT_one (i := 1) (by kernel_rfl) rfl (fun K hK => ?_)
        go_simp
        have n1 := hid ((Below.refl wr.heap.size wr).drew.step (below_new wr.drew (.cells #[.int .u8 1] 5)))
        have hb1 := hid (hbr.out.later n1.out)
        (refine hK.out _ _ (fun _ => hS.out _ hb1.out.below) (fun _ => ?_); clear hK K; (try simp only [Act.put, List.setIfInBounds_toArray, List.set_cons_zero, List.set_cons_succ]))
        refine wpAnyT_one (i := 2) (by kernel_rfl) rfl (fun K hK => ?_)
        refine step_buf_made rfl _ _ rfl hP rfl hb1.out [1] wr.heap.size 1 1 rfl rfl (src_new [1] _ rfl rfl) (by have := hle2.out; simp only [List.length_append, List.length_singleton]; omega) ?_
        intro v2 w2 hb2
        replace hb2 := hid hb2
        clear hb1 n1
        (refine hK.out _ _ (fun _ => hS.out _ hb2.out.below) (fun _ => ?_); clear hK K; (try simp only [Act.put, List.setIfInBounds_toArray]))
        refine wpAnyT_one (i := 8) (by kernel_rfl) rfl (fun K hK => ?_)
        go_simp
        refine (hcx.out _ _ (hxr.out.later ((below_new _ _).step hb2.out.below))).mono ?_
        rintro e w4 ⟨v4, rfl, g4, c4, rfl, hm4⟩
        have hb4 := hid (hb2.out.later hm4.below)
        have hsr4 := hid hm4.src
        clear hm4
        (refine hK.out _ _ (fun _ => hS.out _ hb4.out.below) (fun _ => ?_); clear hK K; (try simp only [Act.put, List.setIfInBounds_toArray, List.set_cons_zero, List.set_cons_succ]))
        refine wpAnyT_one (i := 9) (by kernel_rfl) rfl (fun K hK => ?_)
        refine step_buf_made rfl _ _ rfl hP rfl hb4.out ex g4 _ _ rfl rfl hsr4.out (by have := hle2.out; simp only [List.length_append, List.length_singleton]; omega) ?_
        intro v5 w5 hb5
        replace hb5 := hid hb5
        (refine hK.out _ _ (fun _ => hS.out _ hb5.out.below) (fun _ => ?_); clear hK K; (try simp only [Act.put, List.setIfInBounds_toArray]))
        clear hS hS0
        refine wpAnyT_one (i := 10) (by kernel_rfl) rfl (fun K hK => ?_)
        go_simp
        (refine hK.out _ _ (fun h => absurd h (by decide)) (fun _ => ?_); clear hK K; (try simp only [Act.put, List.setIfInBounds_toArray, List.set_cons_zero, List.set_cons_succ]))
        refine wpAnyT_done (by kernel_rfl) ?_ _
        go_wp2_with fail
        go_roundg (l.length - (j + 1))
        case measure => omega
        case rel => exact ⟨j + 1, v5, by omega, by go_num, rfl, by show Buf _ _ _ _ _ _; rw [hsx.out]; simpa using hb5.out⟩
      · have he : l.take j = l := List.take_of_length_le (by omega)
        rw [he] at hbr
        have hle2 := hlen2.out
        go_wp2_with (first
          | (at_builtin; (refine wpList_buf_made rfl (.tmp 68) (.tmp 69) rfl hP rfl (hbr.out.later (below_new _ _)) [0] wr.heap.size 1 1 rfl rfl (src_new [0] _ rfl rfl) (by simp only [List.length_append, List.length_singleton]; omega) ?_); intro v5 w5 hb5))
        go_ret
        rw [← hr.out] at hb5
        exact ⟨_, rfl, made_of hb5 hne.out⟩
  · replace hr : Hid (R = ([b0] ++ keyF fn fv) ++ [0]) := by show _ = _; rw [hr.out]; simp
    have hlen2 : Hid ((keyF fn fv).length + 2 ≤ 17592186044416) := by
      show _ ≤ _
      rw [hr.out] at hlen
      simp at hlen
      omega
    have hfL := hid (hA.2 rfl)
    have hb1 := hid (hnew.out (w.alloc (.cells #[.int .i64 6, .int .i64 n, .string s, .slice la l.length lc, .slice fa fv.length fc] 25)) (w.heap.size + 1) 60 (by simp) (show (60 : Int) = b0.toNat by have := hz0.out; omega))
    clear hlen hA
    go_enter Tryd.func23, Tryd.ntmps23
    go_wp2_with fail
    go_loopg [3, 7] fv.length (fun q o i wr => ∃ (j : Nat) (v : Value), q + j = fv.length ∧ i = .int .i64 j ∧ v = o ∧ Hid (Buf (w.alloc (.cells #[.int .i64 6, .int .i64 n, .string s, .slice la l.length lc, .slice fa fv.length fc] 25)).heap.size 5 (w.alloc (.cells #[.int .i64 6, .int .i64 n, .string s, .slice la l.length lc, .slice fa fv.length fc] 25)) wr ([b0] ++ keyF (fn.take j) (fv.take j)) v))
    case atStart => exact ⟨0, _, by omega, rfl, rfl, hb1⟩
    case round =>
      clear hb1
      obtain ⟨j, v, hj, rfl, rfl, hbr⟩ := hrel
      have a4 := box_cell (j := 4) hbr.out.below rfl
      by_cases hlt : j < fv.length
      · obtain ⟨x, hx⟩ : ∃ x, fv[j]? = some x := ⟨_, List.getElem?_eq_getElem hlt⟩
        obtain ⟨nm, hnm⟩ : ∃ nm, fn[j]? = some nm := ⟨_, List.getElem?_eq_getElem (by rw [hfl.out]; exact hlt)⟩
        obtain ⟨b, off, xs, rfl, hxS, hxc, hxr, hnz⟩ := hF0.out.at_ hnm hx
        have hxn := nodes_mem (List.mem_of_getElem? hx)
        have hsx := hid (keyF_succ hnm hx)
        have hle := keyF_take_le fn fv (j + 1)
        rw [hsx.out, List.length_append, List.length_cons, List.length_append] at hle
        have hcx := hid (fun w cs h => ih x.nodes (by simp only [PVal.nodes]; omega) x rfl w cs (by have := hlen2.out; omega) (hfL.out x (List.mem_of_getElem? hx)) h)
        have hle2 : Hid ((keyF (fn.take j) (fv.take j)).length + (esc nm.data.toList).length + x.key.length + 4 ≤ 17592186044420) := by show _ ≤ _; have := hlen2.out; omega
        have htS := hid (htx.out nm (by
          have h1 := (esc_len nm.data.toList).1
          have h2 : nm.data.toList.length = nm.size := by simp
          have := hlen2.out
          omega))
        generalize x.key = ex at *
        generalize keyF (fn.take j) (fv.take j) = done at *
        generalize esc nm.data.toList = en at *
        clear hx hnm hle
        obtain ⟨xk, xn, xsx, xl, xfn, xfv⟩ := x
        obtain ⟨xla, xlc, xfa, xfc, rfl, _⟩ := hxr.inv
        have hc6 : Hid (∀ w', Below w.heap.size w w' → _) := fun w' h => six (cells_later h hxS hxc)
        have hS : Hid (∀ w', Below (w.alloc (.cells #[.int .i64 6, .int .i64 n, .string s, .slice la l.length lc, .slice (some ⟨b, off, none⟩) fv.length fc] 25)).heap.size (w.alloc (.cells #[.int .i64 6, .int .i64 n, .string s, .slice la l.length lc, .slice (some ⟨b, off, none⟩) fv.length fc] 25)) w' → KoT w.heap.size b (off + j * 6) (.slice (some ⟨b, off, none⟩) fv.length fc) (.string nm) w') := fun w' h =>
          ⟨box_cell h rfl, (hc6.out w' ((below_new _ _).step h)).1⟩
        have p1 : (0 : Int) ≤ (j : Int) := by omega
        have l1 : (j : Int) < (fv.length : Int) := by omega
        clear hxc
        replace hxr := hid hxr
        go_upto_region 23 with fail
        clear a4
        refine wp_region_T (KoT w.heap.size b (off + j * 6) (.slice (some ⟨b, off, none⟩) fv.length fc) (.string nm)) 11 (by kernel_rfl) ?_
        have hS0 := hS.out wr.drew hbr.out.below.drew
        ((refine wpAnyT_take (i := 0) (v := ?_) rfl (by kernel_rfl) (by kernel_rfl) (by kernel_rfl) (by kernel_rfl) (by exact fun _ _ _ h => h) (Or.inl ⟨by kernel_rfl, ?_⟩) hS0 ?_; rotate_left 1; focus (intro w hSw; unfold KoT at hSw; (try dsimp only at hSw); go_simp; try with_reducible rfl); (try simp only [List.getElem_toArray, List.getElem_cons_zero, List.getElem_cons_succ, Act.put, List.setIfInBounds_toArray, List.set_cons_zero, List.set_cons_succ])); (refine wpAnyT_take (i := 3) (v := ?_) rfl (by kernel_rfl) (by kernel_rfl) (by kernel_rfl) (by kernel_rfl) (by exact fun _ _ _ h => h) (Or.inl ⟨by kernel_rfl, ?_⟩) hS0 ?_; rotate_left 1; focus (intro w hSw; unfold KoT at hSw; (try dsimp only at hSw); go_simp; try with_reducible rfl); (try simp only [List.getElem_toArray, List.getElem_cons_zero, List.getElem_cons_succ, Act.put, List.setIfInBounds_toArray, List.set_cons_zero, List.set_cons_succ])); (refine wpAnyT_take (i := 4) (v := ?_) rfl (by kernel_rfl) (by kernel_rfl) (by kernel_rfl) (by kernel_rfl) (by exact fun _ _ _ h => h) (Or.inl ⟨by kernel_rfl, ?_⟩) hS0 ?_; rotate_left 1; focus (intro w hSw; unfold KoT at hSw; (try dsimp only at hSw); go_simp; try with_reducible rfl); (try simp only [List.getElem_toArray, List.getElem_cons_zero, List.getElem_cons_succ, Act.put, List.setIfInBounds_toArray, List.set_cons_zero, List.set_cons_succ])); (refine wpAnyT_take (i := 5) (v := ?_) rfl (by kernel_rfl) (by kernel_rfl) (by kernel_rfl) (by kernel_rfl) (by exact fun _ _ _ h => h) (Or.inl ⟨by kernel_rfl, ?_⟩) hS0 ?_; rotate_left 1; focus (intro w hSw; unfold KoT at hSw; (try dsimp only at hSw); go_simp; try with_reducible rfl); (try simp only [List.getElem_toArray, List.getElem_cons_zero, List.getElem_cons_succ, Act.put, List.setIfInBounds_toArray, List.set_cons_zero, List.set_cons_succ])); (refine wpAnyT_take (i := 6) (v := ?_) rfl (by kernel_rfl) (by kernel_rfl) (by kernel_rfl) (by kernel_rfl) (by exact fun _ _ _ h => h) (Or.inl ⟨by kernel_rfl, ?_⟩) hS0 ?_; rotate_left 1; focus (intro w hSw; unfold KoT at hSw; (try dsimp only at hSw); go_simp; try with_reducible rfl); (try simp only [List.getElem_toArray, List.getElem_cons_zero, List.getElem_cons_succ, Act.put, List.setIfInBounds_toArray, List.set_cons_zero, List.set_cons_succ])); (refine wpAnyT_take (i := 7) (v := ?_) rfl (by kernel_rfl) (by kernel_rfl) (by kernel_rfl) (by kernel_rfl) (by exact fun _ _ _ h => h) (Or.inl ⟨by kernel_rfl, ?_⟩) hS0 ?_; rotate_left 1; focus (intro w hSw; unfold KoT at hSw; (try dsimp only at hSw); go_simp; try with_reducible rfl); (try simp only [List.getElem_toArray, List.getElem_cons_zero, List.getElem_cons_succ, Act.put, List.setIfInBounds_toArray, List.set_cons_zero, List.set_cons_succ])); (refine wpAnyT_take (i := 8) (v := ?_) rfl (by kernel_rfl) (by kernel_rfl) (by kernel_rfl) (by kernel_rfl) (by exact fun _ _ _ h => h) (Or.inl ⟨by kernel_rfl, ?_⟩) hS0 ?_; rotate_left 1; focus (intro w hSw; unfold KoT at hSw; (try dsimp only at hSw); go_simp; try with_reducible rfl); (try simp only [List.getElem_toArray, List.getElem_cons_zero, List.getElem_cons_succ, Act.put, List.setIfInBounds_toArray, List.set_cons_zero, List.set_cons_succ])))
        refine wpAnyT_one (i := 1) (by kernel_rfl) rfl (fun K hK => ?_)
        go_simp
        have n1 := hid ((Below.refl wr.heap.size wr).drew.step (below_new wr.drew (.cells #[.int .u8 1] 5)))
        have hb1 := hid (hbr.out.later n1.out)
        (refine hK.out _ _ (fun _ => hS.out _ hb1.out.below) (fun _ => ?_); clear hK K; (try simp only [Act.put, List.setIfInBounds_toArray, List.set_cons_zero, List.set_cons_succ]))
        refine wpAnyT_one (i := 2) (by kernel_rfl) rfl (fun K hK => ?_)
        refine step_buf_made rfl _ _ rfl hP rfl hb1.out [1] wr.heap.size 1 1 rfl rfl (src_new [1] _ rfl rfl) (by have := hle2.out; simp only [List.length_append, List.length_singleton]; omega) ?_
        intro v2 w2 hb2
        replace hb2 := hid hb2
        clear hb1 n1
        (refine hK.out _ _ (fun _ => hS.out _ hb2.out.below) (fun _ => ?_); clear hK K; (try simp only [Act.put, List.setIfInBounds_toArray]))
        refine wpAnyT_one (i := 9) (by kernel_rfl) rfl (fun K hK => ?_)
        go_simp
        refine (htS.out _).mono ?_
        rintro e w4 ⟨v4, rfl, g4, c4, rfl, hm4⟩
        have hb4 := hid (hb2.out.later hm4.below)
        have hsr4 := hid hm4.src
        clear hm4
        (refine hK.out _ _ (fun _ => hS.out _ hb4.out.below) (fun _ => ?_); clear hK K; (try simp only [Act.put, List.setIfInBounds_toArray, List.set_cons_zero, List.set_cons_succ]))
        refine wpAnyT_one (i := 10) (by kernel_rfl) rfl (fun K hK => ?_)
        refine step_buf_made rfl _ _ rfl hP rfl hb4.out en g4 _ _ rfl rfl hsr4.out (by have := hle2.out; simp only [List.length_append, List.length_singleton]; omega) ?_
        intro v5 w5 hb5
        replace hb5 := hid hb5
        (refine hK.out _ _ (fun _ => hS.out _ hb5.out.below) (fun _ => ?_); clear hK K; (try simp only [Act.put, List.setIfInBounds_toArray]))
        clear hS hS0
        refine wpAnyT_one (i := 11) (by kernel_rfl) rfl (fun K hK => ?_)
        go_simp
        (refine hK.out _ _ (fun h => absurd h (by decide)) (fun _ => ?_); clear hK K; (try simp only [Act.put, List.setIfInBounds_toArray, List.set_cons_zero, List.set_cons_succ]))
        refine wpAnyT_done (by kernel_rfl) ?_ _
        have a4 := box_cell (j := 4) hb5.out.below rfl
        have hbw := hid ((below_new _ _).step hb5.out.below)
        obtain ⟨d0, d1, d2, d3, d4, d5⟩ := hc6.out _ hbw.out
        go_wp2_with fail
        refine (hcx.out _ _ (hxr.out.later hbw.out)).mono ?_
        rintro e w7 ⟨v7, rfl, g7, c7, rfl, hm7⟩
        go_wp2_with (first
          | (at_builtin; (refine wpList_buf_made rfl _ _ rfl hP rfl (hb5.out.later hm7.below) ex g7 _ _ rfl rfl hm7.src (by have := hle2.out; simp only [List.length_append, List.length_singleton]; omega) ?_); intro v8 w8 hb8))
        replace hb8 := hid hb8
        go_roundg (fv.length - (j + 1))
        case measure => omega
        case rel => exact ⟨j + 1, v8, by omega, by go_num, rfl, by show Buf _ _ _ _ _ _; rw [hsx.out]; simpa using hb8.out⟩
      · have he : keyF (fn.take j) (fv.take j) = keyF fn fv := by rw [List.take_of_length_le (by omega : fv.length ≤ j), List.take_of_length_le (by rw [hfl.out]; omega : fn.length ≤ j)]
        rw [he] at hbr
        have hle2 := hlen2.out
        go_wp2_with (first
          | (at_builtin; (refine wpList_buf_made rfl (.tmp 100) (.tmp 101) rfl hP rfl (hbr.out.later (below_new _ _)) [0] wr.heap.size 1 1 rfl rfl (src_new [0] _ rfl rfl) (by simp only [List.length_append, List.length_singleton]; omega) ?_); intro v5 w5 hb5))
        go_ret
        rw [← hr.out] at hb5
        exact ⟨_, rfl, made_of hb5 hne.out⟩
end Go.Proofs.YtihcegakghmdfaaDoor
