/-
  Walk: the law ValueLimits.
  Walks: value.hash's bytes, byte, number, value; Hash.
  Walks: the reference's zig, Varint.
  Plain: bytes read as a number, a text, a value.
-/
import Derived.Test.YtihcegakghmdfaaDoorMgVal10
import Derived.Test.YtihcegakghmdfaaDoorMgRef1
import Derived.Lib.Zigzag
namespace Go.Proofs.YtihcegakghmdfaaDoor
open Go.RowKit Go.Proofs

theorem and_mask (n : Int) (m : Nat) (hm : m < 4611686018427387904) : ∃ k : Nat, bits .and .i64 n m = (k : Int) ∧ k ≤ m := by
  refine ⟨(BitVec.ofInt 64 n &&& BitVec.ofInt 64 m).toNat, ?_, ?_⟩
  · have h : (BitVec.ofInt 64 n &&& BitVec.ofInt 64 m).toNat ≤ m := by
      rw [BitVec.toNat_and]
      refine Nat.le_trans Nat.and_le_right ?_
      rw [BitVec.ofInt_natCast, BitVec.toNat_ofNat]
      exact Nat.mod_le _ _
    show IntKind.i64.wrap ((BitVec.ofInt 64 n &&& BitVec.ofInt 64 m).toNat : Int) = _
    rw [IntKind.wrap_i64]
    generalize (BitVec.ofInt 64 n &&& BitVec.ofInt 64 m).toNat = k at *
    omega
  · rw [BitVec.toNat_and]
    refine Nat.le_trans Nat.and_le_right ?_
    rw [BitVec.ofInt_natCast, BitVec.toNat_ofNat]
    exact Nat.mod_le _ _

theorem box_at {w : World} {g : Nat} {cs : Array Value} {t : TypeId} (h : w.heap[g]? = some (.cells cs t (0, 0))) {j : Nat} {v : Value} (hj : cs[j]? = some v) : w.cell? ⟨g, j, none⟩ = some v := by
  rw [cell_of_row _ _ _ _ _ _ h]; exact hj
theorem box_free {w : World} {g : Nat} {cs : Array Value} {t : TypeId} (h : w.heap[g]? = some (.cells cs t (0, 0))) (j : Nat) : w.frozen? ⟨g, j, none⟩ = false := by
  simp [World.frozen?, h]

theorem row_setCell {w : World} {g j : Nat} {cs : Array Value} {u : Value} {t : TypeId} (h : w.heap[g]? = some (.cells cs t (0, 0))) : (w.setCell ⟨g, j, none⟩ u).heap[g]? = some (.cells (cs.setIfInBounds j u) t (0, 0)) := by
  have hlt := lt_of_block h
  have h' : w.heap[g] = .cells cs t (0, 0) := by simpa [Array.getElem?_eq_getElem hlt] using h
  show (w.heap.modify g _)[g]? = _
  rw [Array.getElem?_eq_getElem (by simpa using hlt), Array.getElem_modify_self, h']
  rfl
/-- Five cells of a block set. -/
def set5 (w : World) (g : Nat) (u0 u1 u2 u3 u4 : Value) : World :=
  ((((w.setCell ⟨g, 0, none⟩ u0).setCell ⟨g, 1, none⟩ u1).setCell ⟨g, 2, none⟩ u2).setCell ⟨g, 3, none⟩ u3).setCell ⟨g, 4, none⟩ u4
theorem set5_box {w : World} {g : Nat} {v0 v1 v2 v3 v4 u0 u1 u2 u3 u4 : Value} {t : TypeId} (h : w.heap[g]? = some (.cells #[v0, v1, v2, v3, v4] t (0, 0))) :
    (set5 w g u0 u1 u2 u3 u4).heap[g]? = some (.cells #[u0, u1, u2, u3, u4] t (0, 0)) :=
  row_setCell (row_setCell (row_setCell (row_setCell (row_setCell h))))
theorem set5_size (w : World) (g : Nat) (u0 u1 u2 u3 u4 : Value) : (set5 w g u0 u1 u2 u3 u4).heap.size = w.heap.size := by simp [set5, World.setCell]
theorem set5_below {B g : Nat} {a w : World} (h : Below B a w) (hg : B ≤ g) (u0 u1 u2 u3 u4 : Value) : Below B a (set5 w g u0 u1 u2 u3 u4) :=
  ((((h.setCell (p := ⟨g, 0, none⟩) hg u0).setCell (p := ⟨g, 1, none⟩) hg u1).setCell (p := ⟨g, 2, none⟩) hg u2).setCell (p := ⟨g, 3, none⟩) hg u3).setCell (p := ⟨g, 4, none⟩) hg u4
theorem set5_other (w : World) (g : Nat) (u0 u1 u2 u3 u4 : Value) {b : Nat} (h : b ≠ g) : (set5 w g u0 u1 u2 u3 u4).heap[b]? = w.heap[b]? := by
  unfold set5
  rw [Below.heap_setCell _ _ _ _ h, Below.heap_setCell _ _ _ _ h, Below.heap_setCell _ _ _ _ h, Below.heap_setCell _ _ _ _ h, Below.heap_setCell _ _ _ _ h]

end Go.Proofs.YtihcegakghmdfaaDoor

namespace Go.Proofs.YtihcegakghmdfaaDoor
open Go.RowKit Go.Proofs

def mix1 (h : Int) (b : UInt8) : Int := IntKind.u64.wrap (bits .xor .u64 h b.toNat * 1099511628211)
def mix (h : Int) (l : List UInt8) : Int := l.foldl mix1 h
theorem mix_append (h : Int) (a b : List UInt8) : mix h (a ++ b) = mix (mix h a) b := List.foldl_append
theorem mix_cons (h : Int) (b : UInt8) (l : List UInt8) : mix h (b :: l) = mix (mix h [b]) l := rfl
theorem mix1_in (h : Int) (b : UInt8) : 0 ≤ mix1 h b ∧ mix1 h b < 18446744073709551616 := by
  unfold mix1
  rw [IntKind.wrap_u64]
  omega

theorem or128 (z : Int) (h0 : 0 ≤ z) (h1 : z < 256) : bits .or .u8 z 128 = z % 128 + 128 := by
  obtain ⟨k, rfl⟩ := Int.eq_ofNat_of_zero_le h0
  have hk : k < 256 := by omega
  have h : ∀ k : Fin 256, bits .or .u8 (k.val : Int) 128 = (k.val : Int) % 128 + 128 := by decide +kernel
  exact h ⟨k, hk⟩

mutual
/-- A value's bytes. -/
def PVal.enc : PVal → List UInt8
  | .mk k n s l fn fv => UInt8.ofNat (k % 256).toNat :: (if k = 2 then [UInt8.ofNat (n % 256).toNat] else if k = 3 then varint (turned n) else if k = 4 then varint s.size ++ s.data.toList
      else if k = 5 then varint l.length ++ encL l else if k = 6 then varint fv.length ++ encF fn fv else [])
def encL : List PVal → List UInt8
  | [] => []
  | x :: r => x.enc ++ encL r
def encF : List ByteArray → List PVal → List UInt8
  | a :: ar, x :: r => (varint a.size ++ a.data.toList) ++ (x.enc ++ encF ar r)
  | _, _ => []
end
theorem encL_append (a b : List PVal) : encL (a ++ b) = encL a ++ encL b := by
  induction a with
  | nil => rfl
  | cons x r ih => simp [encL, ih]
theorem encL_succ {l : List PVal} {i : Nat} {x : PVal} (h : l[i]? = some x) : encL (l.take (i + 1)) = encL (l.take i) ++ x.enc := by
  rw [take_succ_of h, encL_append]; simp [encL]
theorem encF_succ : ∀ {fn : List ByteArray} {fv : List PVal} {i : Nat} {a : ByteArray} {x : PVal}, fn[i]? = some a → fv[i]? = some x →
    encF (fn.take (i + 1)) (fv.take (i + 1)) = encF (fn.take i) (fv.take i) ++ ((varint a.size ++ a.data.toList) ++ x.enc)
  | [], _, _, _, _, h, _ => by simp at h
  | _, [], _, _, _, _, h => by simp at h
  | b :: ar, y :: r, 0, a, x, h, h' => by
    have e1 : b = a := by simpa using h
    have e2 : y = x := by simpa using h'
    subst e1 e2
    simp [encF]
  | b :: ar, y :: r, i + 1, a, x, h, h' => by
    have := encF_succ (fn := ar) (fv := r) (i := i) (a := a) (x := x) (by simpa using h) (by simpa using h')
    simp only [List.take_succ_cons, encF, this]
    simp
end Go.Proofs.YtihcegakghmdfaaDoor

namespace Go.Proofs.YtihcegakghmdfaaDoor
open Go.RowKit Go.Proofs

theorem zig_calls (n : Int) (hn : -9223372036854775808 ≤ n ∧ n ≤ 9223372036854775807) (w : World) : Calls Tryd.prog 74 #[.int .i64 n] w fun e w' => e = .returned (.int .u64 (turned n)) ∧ w = w' := by
  by_cases h : n < 0
  · have ht : Hid ((turned n : Int) = -2 * n - 1) := by show _ = _; unfold turned; rw [if_pos h]; omega
    generalize turned n = T at *
    go_enter Tryd.func74, Tryd.ntmps74
    go_wp2_with fail
    go_ret
    refine ⟨?_, rfl⟩
    have := ht.out
    first | go_num | (congr 2; omega)
  · have ht : Hid ((turned n : Int) = 2 * n) := by show _ = _; unfold turned; rw [if_neg h]; omega
    generalize turned n = T at *
    go_enter Tryd.func74, Tryd.ntmps74
    go_wp2_with fail
    go_ret
    refine ⟨?_, rfl⟩
    have := ht.out
    first | go_num | (congr 2; omega)

theorem varint_length (n : Nat) : (varint n).length = digits n := by
  induction n using Nat.strongRecOn with
  | _ n ih =>
    rw [varint, digits]
    split
    · rfl
    · rw [List.length_cons, ih _ (by omega)]
theorem varint_ne (n : Nat) : varint n ≠ [] := by rw [varint]; split <;> simp

set_option maxRecDepth 100000 in
theorem rvarint_calls (n : Nat) (hn : n < 18446744073709551616) (w : World) :
    Calls Tryd.prog 53 #[.int .u64 n] w fun e w' => ∃ v, e = .returned v ∧ Made w w' (varint n) v := by
  obtain ⟨i, hP⟩ := byte8
  have hlen := varint_length n
  have hdig := digits_le n hn
  generalize hV : varint n = V at *
  replace hV := hid hV
  have hVl : V.length ≤ 10 := by omega
  clear hlen
  go_enter Tryd.func53, Tryd.ntmps53
  go_wp2_with fail
  go_loopg [0, 3] n (fun gk m o wr => ∃ (a : Nat) (l : List UInt8), gk = a ∧ a < 18446744073709551616 ∧ m = .int .u64 a ∧ l ++ varint a = V ∧ Buf w.heap.size 5 w wr l o)
  case atStart => exact ⟨n, [], rfl, hn, rfl, hV.out, Buf.nil (Below.refl _ _) (Nat.le_refl _)⟩
  case round =>
    obtain ⟨a, l, rfl, ha, rfl, hl, hb⟩ := hrel
    have hll : l.length ≤ 10 := by rw [← hl, List.length_append] at hVl; omega
    replace hl := hid hl
    by_cases h128 : 128 ≤ gk
    · obtain ⟨b, hbb⟩ : ∃ b : UInt8, b = UInt8.ofNat (gk % 128 + 128) := ⟨_, rfl⟩
      have hv : Hid (varint gk = b :: varint (gk / 128)) := by show _ = _; rw [varint, if_neg (by omega), hbb]
      have hz : Hid (((gk : Int) % 128 + 128) = b.toNat) := by
        show _ = _
        rw [hbb, UInt8.toNat_ofNat']; omega
      clear hbb
      go_wp2_with (first
        | (at_builtin; (refine wpList_buf_made rfl _ _ rfl hP rfl (hb.later (below_new _ _)) [b] wr.heap.size 1 1 rfl rfl (src_new [b] _ (by first | (rw [show bcells [b] = [.int .u8 b.toNat] from rfl, ← hz.out]; done) | (simp only [bcells, List.map_cons, List.map_nil, ← hz.out]; go_num)) rfl) (by simp; omega) ?_); intro v' w2 hb2))
      go_roundg (gk / 128)
      case measure => omega
      case rel => exact ⟨gk / 128, l ++ [b], rfl, by omega, by go_num, by rw [← hl.out, hv.out]; simp, hb2⟩
    · obtain ⟨b, hbb⟩ : ∃ b : UInt8, b = UInt8.ofNat gk := ⟨_, rfl⟩
      have hv : Hid (varint gk = [b]) := by show _ = _; rw [varint, if_pos (by omega), hbb]
      have hz : Hid ((gk : Int) = b.toNat) := by show _ = _; rw [hbb, UInt8.toNat_ofNat']; omega
      clear hbb
      go_wp2_with (first
        | (at_builtin; (refine wpList_buf_made rfl _ _ rfl hP rfl (hb.later (below_new _ _)) [b] wr.heap.size 1 1 rfl rfl (src_new [b] _ (by first | (rw [show bcells [b] = [.int .u8 b.toNat] from rfl, ← hz.out]; done) | (simp only [bcells, List.map_cons, List.map_nil, ← hz.out]; go_num)) rfl) (by simp; omega) ?_); intro v' w2 hb2))
      go_ret
      have he : l ++ [b] = V := by rw [← hl.out, hv.out]
      rw [he] at hb2
      obtain ⟨g, cap, hform, _⟩ := hb2.form (by rw [← hV.out]; exact varint_ne n)
      subst hform
      exact ⟨_, rfl, g, cap, rfl, hb2⟩
end Go.Proofs.YtihcegakghmdfaaDoor

namespace Go.Proofs.YtihcegakghmdfaaDoor

/-- What is read of bytes: an error, or something and of how many bytes. -/
inductive Got (α : Type) where
  | bad (e : Int)
  | ok (x : α) (n : Nat)

/-- A varint, k digits of it read. -/
def numR (k acc : Nat) : List UInt8 → Got Nat
  | [] => .bad 17
  | d :: r =>
    if 9 ≤ k ∧ 1 < d.toNat then .bad 4
    else if 128 ≤ d.toNat then numR (k + 1) (acc + d.toNat % 128 * 128 ^ k) r
    else if d.toNat = 0 ∧ 0 < k then .bad 4 else .ok (acc + d.toNat * 128 ^ k) (k + 1)

theorem varint_low {n : Nat} (h : n < 128) : varint n = [UInt8.ofNat n] := by rw [varint, if_pos h]
theorem varint_high {n : Nat} (h : 128 ≤ n) : varint n = UInt8.ofNat (n % 128 + 128) :: varint (n / 128) := by rw [varint, if_neg (by omega)]
theorem pow128 : 128 ^ 9 = 9223372036854775808 := by decide

theorem numR_varint : ∀ (k n acc : Nat) (r : List UInt8), k ≤ 9 → n * 128 ^ k < 18446744073709551616 → (0 < k → n ≠ 0) → numR k acc (varint n ++ r) = .ok (acc + n * 128 ^ k) (k + (varint n).length) := by
  have key : ∀ (m k n acc : Nat) (r : List UInt8), 9 - k = m → k ≤ 9 → n * 128 ^ k < 18446744073709551616 → (0 < k → n ≠ 0) → numR k acc (varint n ++ r) = .ok (acc + n * 128 ^ k) (k + (varint n).length) := by
    intro m
    induction m with
    | zero =>
      intro k n acc r hm hk hn h0
      obtain rfl : k = 9 := by omega
      rw [pow128] at hn ⊢
      have hn1 : n < 2 := by omega
      have hn0 := h0 (by omega)
      obtain rfl : n = 1 := by omega
      rw [varint_low (by omega)]
      show numR 9 acc ((1 : UInt8) :: r) = _
      rw [numR, if_neg (by decide), if_neg (by decide), if_neg (by decide), pow128]
      rfl
    | succ m ih =>
      intro k n acc r hm hk hn h0
      have hk9 : ¬ 9 ≤ k := by omega
      by_cases h : n < 128
      · rw [varint_low h]
        have hd : (UInt8.ofNat n).toNat = n := by rw [UInt8.toNat_ofNat']; omega
        show numR k acc (UInt8.ofNat n :: r) = _
        rw [numR, hd, if_neg (by omega), if_neg (by omega), if_neg (by intro hh; exact h0 hh.2 hh.1)]
        rfl
      · rw [varint_high (by omega)]
        have hd : (UInt8.ofNat (n % 128 + 128)).toNat = n % 128 + 128 := by rw [UInt8.toNat_ofNat']; omega
        show numR k acc (UInt8.ofNat (n % 128 + 128) :: (varint (n / 128) ++ r)) = _
        have hp : n / 128 * 128 ^ (k + 1) ≤ n * 128 ^ k := by
          rw [Nat.pow_succ, ← Nat.mul_assoc, Nat.mul_right_comm]
          exact Nat.mul_le_mul_right _ (Nat.div_mul_le_self n 128)
        rw [numR, hd, if_neg (by omega), if_pos (by omega), ih (k + 1) (n / 128) _ r (by omega) (by omega) (by omega) (fun _ => by omega)]
        have e1 : (n % 128 + 128) % 128 = n % 128 := by omega
        have e2 : n * 128 ^ k = n % 128 * 128 ^ k + n / 128 * 128 ^ (k + 1) := by
          conv => lhs; rw [← Nat.mod_add_div n 128, Nat.add_mul]
          congr 1
          rw [Nat.pow_succ, Nat.mul_comm 128 (n / 128), Nat.mul_assoc, Nat.mul_comm 128]
        rw [e1, List.length_cons, e2]
        congr 1 <;> omega
  exact fun k n acc r => key _ k n acc r rfl
theorem num_varint {n : Nat} (h : n < 18446744073709551616) (r : List UInt8) : numR 0 0 (varint n ++ r) = .ok n (varint n).length := by
  rw [numR_varint 0 n 0 r (by omega) (by simpa using h) (fun h => absurd h (by omega))]
  simp

theorem numR_inv : ∀ (l : List UInt8) (k acc n c : Nat), k ≤ 9 → numR k acc l = .ok n c →
    ∃ m, n = acc + m * 128 ^ k ∧ c = k + (varint m).length ∧ l.take (varint m).length = varint m ∧ (0 < k → m ≠ 0) ∧ m * 128 ^ k < 18446744073709551616
  | [], _, _, _, _, _, h => by cases h
  | d :: r, k, acc, n, c, hk, h => by
    have hd8 := d.toNat_lt
    rw [numR] at h
    split at h
    · cases h
    rename_i h9
    split at h
    · rename_i h128
      have hk8 : k + 1 ≤ 9 := by omega
      obtain ⟨m, h1, h2, h3, h4, h5⟩ := numR_inv r (k + 1) _ n c hk8 h
      have hm := h4 (by omega)
      refine ⟨d.toNat % 128 + 128 * m, ?_, ?_, ?_, fun _ => by omega, ?_⟩
      · rw [h1, Nat.add_mul, Nat.add_assoc, Nat.pow_succ, Nat.mul_comm 128 m, Nat.mul_assoc, Nat.mul_comm 128]
      · rw [varint_high (by omega), List.length_cons, show (d.toNat % 128 + 128 * m) / 128 = m by omega]; omega
      · rw [varint_high (by omega), List.length_cons, show (d.toNat % 128 + 128 * m) / 128 = m by omega, List.take_succ_cons, h3]
        congr 1
        apply UInt8.toNat_inj.1
        rw [UInt8.toNat_ofNat']; omega
      · have e : (d.toNat % 128 + 128 * m) * 128 ^ k = d.toNat % 128 * 128 ^ k + m * 128 ^ (k + 1) := by
          rw [Nat.add_mul, Nat.pow_succ, Nat.mul_comm 128 m, Nat.mul_assoc, Nat.mul_comm 128]
        have hp : 128 ^ (k + 1) ≤ m * 128 ^ (k + 1) := Nat.le_mul_of_pos_left _ (by omega)
        have hq : d.toNat % 128 * 128 ^ k < 128 ^ (k + 1) := by
          rw [Nat.pow_succ, Nat.mul_comm]
          exact Nat.mul_lt_mul_of_pos_left (by omega) (Nat.pow_pos (by omega))
        -- below 2^64: the last digit is at most 1
        have hdiv : 128 ^ (k + 1) ∣ 18446744073709551616 ∨ 9 < k + 1 := by
          rcases Nat.lt_or_ge 9 (k + 1) with h | h
          · exact .inr h
          · left
            have : 18446744073709551616 = 128 ^ (k + 1) * 2 ^ (64 - 7 * (k + 1)) := by
              rw [show (128 : Nat) = 2 ^ 7 from rfl, ← Nat.pow_mul, ← Nat.pow_add, show 7 * (k + 1) + (64 - 7 * (k + 1)) = 64 by omega]
            exact ⟨_, this⟩
        rcases hdiv with ⟨z, hz⟩ | hz
        · rw [e]
          rw [hz, Nat.mul_comm] at h5
          have : m < z := Nat.lt_of_mul_lt_mul_left h5
          have h6 : 128 ^ (k + 1) * (m + 1) ≤ 128 ^ (k + 1) * z := Nat.mul_le_mul_left _ this
          rw [hz]
          rw [Nat.mul_succ] at h6
          rw [Nat.mul_comm m]
          omega
        · omega
    · rename_i h128
      split at h
      · cases h
      rename_i h0
      injection h with h1 h2
      have hv : varint d.toNat = [d] := by rw [varint_low (by omega)]; congr 1; apply UInt8.toNat_inj.1; rw [UInt8.toNat_ofNat']; omega
      refine ⟨d.toNat, h1.symm, by rw [hv]; exact h2.symm, by rw [hv]; simp, fun hk0 e => h0 ⟨e, hk0⟩, ?_⟩
      rcases Nat.lt_or_ge k 9 with hk9 | hk9
      · have h7 : (128 : Nat) ^ k ≤ 128 ^ 8 := Nat.pow_le_pow_right (by omega) (by omega)
        have h8 : (128 : Nat) ^ 8 = 72057594037927936 := by decide
        have : d.toNat * 128 ^ k ≤ 127 * 128 ^ 8 := Nat.mul_le_mul (by omega) h7
        omega
      · obtain rfl : k = 9 := by omega
        have : d.toNat ≤ 1 := by omega
        rw [pow128]; omega
theorem num_inv {l : List UInt8} {n c : Nat} (h : numR 0 0 l = .ok n c) : n < 18446744073709551616 ∧ c = (varint n).length ∧ l.take c = varint n ∧ 1 ≤ c ∧ c ≤ l.length := by
  obtain ⟨m, h1, h2, h3, _, h5⟩ := numR_inv l 0 0 n c (by omega) h
  obtain rfl : n = m := by simpa using h1
  have h2' : c = (varint n).length := by omega
  have hpos := List.length_pos_iff.2 (varint_ne n)
  have hle := congrArg List.length h3
  rw [List.length_take] at hle
  exact ⟨by simpa using h5, h2', by rw [h2']; exact h3, by omega, by omega⟩

/-- So many bytes of a text. -/
def txtR (n : Nat) (l : List UInt8) : Got ByteArray := if l.length < n then .bad 17 else if Lib.validD (l.take n) = false then .bad 11 else .ok ⟨(l.take n).toArray⟩ n
/-- A text with its length ahead, of so many bytes at least and at most. -/
def strR (least most : Nat) (e : Int) (l : List UInt8) : Got ByteArray := match numR 0 0 l with
  | .bad e => .bad e
  | .ok n c => if n < least ∨ most < n then .bad e else match txtR n (l.drop c) with
    | .bad e => .bad e
    | .ok s k => .ok s (c + k)
/-- So many values. -/
def listR (p : List UInt8 → Got PVal) : Nat → List UInt8 → Got (List PVal)
  | 0, _ => .ok [] 0
  | m + 1, l => match p l with
    | .bad e => .bad e
    | .ok x c => match listR p m (l.drop c) with
      | .bad e => .bad e
      | .ok xs k => .ok (x :: xs) (c + k)
/-- So many fields, behind a name. -/
def fieldsR (p : List UInt8 → Got PVal) : Nat → ByteArray → List UInt8 → Got (List ByteArray × List PVal)
  | 0, _, _ => .ok ([], []) 0
  | m + 1, last, l => match strR 1 24 15 l with
    | .bad e => .bad e
    | .ok nm c => if blt last nm = false then .bad 4 else match p (l.drop c) with
      | .bad e => .bad e
      | .ok x k => match fieldsR p m nm (l.drop (c + k)) with
        | .bad e => .bad e
        | .ok (fn, fv) j => .ok (nm :: fn, x :: fv) (c + k + j)
/-- An Int's number back. -/
def unturn (n : Nat) : Int := if n % 2 = 1 then -((n / 2 : Nat) : Int) - 1 else ((n / 2 : Nat) : Int)
/-- A value; p: how those within are read, if there may be any. -/
def headR (p : Option (List UInt8 → Got PVal)) : List UInt8 → Got PVal
  | [] => .bad 17
  | k :: r =>
    if k.toNat = 1 then .ok (.mk 1 0 ByteArray.empty [] [] []) 1
    else if k.toNat = 2 then match r with
      | [] => .bad 17
      | d :: _ => if 1 < d.toNat then .bad 4 else .ok (.mk 2 d.toNat ByteArray.empty [] [] []) 2
    else if k.toNat = 3 then match numR 0 0 r with
      | .bad e => .bad e
      | .ok n c => .ok (.mk 3 (unturn n) ByteArray.empty [] [] []) (1 + c)
    else if k.toNat = 4 then match strR 0 2048 2 r with
      | .bad e => .bad e
      | .ok s c => .ok (.mk 4 0 s [] [] []) (1 + c)
    else if k.toNat = 5 then match p with
      | none => .bad 3
      | some p => match numR 0 0 r with
        | .bad e => .bad e
        | .ok n c => if 32 < n then .bad 15 else match listR p n (r.drop c) with
          | .bad e => .bad e
          | .ok xs j => .ok (.mk 5 0 ByteArray.empty xs [] []) (1 + c + j)
    else if k.toNat = 6 then match p with
      | none => .bad 3
      | some p => match numR 0 0 r with
        | .bad e => .bad e
        | .ok n c => if 32 < n then .bad 15 else match fieldsR p n ByteArray.empty (r.drop c) with
          | .bad e => .bad e
          | .ok (fn, fv) j => .ok (.mk 6 0 ByteArray.empty [] fn fv) (1 + c + j)
    else .bad 4
/-- A value with so many levels left. -/
def valR : Nat → List UInt8 → Got PVal
  | 0 => headR none
  | m + 1 => headR (some (valR m))
def takeR (l : List UInt8) : Got PVal := match valR 8 l with
  | .bad e => .bad e
  | .ok V c => if 2048 < c then .bad 2 else .ok V c
def getR (l : List UInt8) : Got PVal := match takeR l with
  | .bad e => .bad e
  | .ok V c => if c < l.length then .bad 4 else .ok V c

theorem txt_ok {s : ByteArray} (hu : utf s = true) (r : List UInt8) : txtR s.size (s.data.toList ++ r) = .ok s s.size := by
  have hl : s.data.toList.length = s.size := by simp
  unfold txtR
  rw [if_neg (by rw [List.length_append, hl]; omega), ← hl, List.take_left, if_neg (by rw [show Lib.validD s.data.toList = true from hu]; simp)]
theorem str_ok {least most : Nat} {e : Int} {s : ByteArray} (hu : utf s = true) (h1 : least ≤ s.size) (h2 : s.size ≤ most) (hm : most ≤ 140737488355328) (r : List UInt8) : strR least most e ((varint s.size ++ s.data.toList) ++ r) = .ok s ((varint s.size).length + s.size) := by
  unfold strR
  rw [List.append_assoc, num_varint (by omega)]
  simp only
  rw [if_neg (by omega), List.drop_left, txt_ok hu]
theorem empty_of {s : ByteArray} (h : s.toList = []) : s = ByteArray.empty := by
  apply Go.WideShapes.bytes_inj
  rw [ByteArray.toList_eq] at h
  rw [h]; rfl
theorem unturn_turned {n : Int} : unturn (turned n) = n := by
  unfold unturn turned
  split <;> split <;> omega
theorem turned_unturn (n : Nat) : turned (unturn n) = n := by
  unfold unturn turned
  split <;> split <;> omega
theorem unturn_in {n : Nat} (h : n < 18446744073709551616) : I64 (unturn n) := by
  unfold unturn I64
  split <;> omega
theorem ofNat_toNat {n : Nat} (h : n < 256) : (UInt8.ofNat n).toNat = n := by rw [UInt8.toNat_ofNat']; omega
theorem of_toNat (c : UInt8) : UInt8.ofNat c.toNat = c := by simp

theorem list_ok (p : List UInt8 → Got PVal) : ∀ (l : List PVal) (r : List UInt8), (∀ x ∈ l, ∀ r, p (x.enc ++ r) = .ok x x.enc.length) → listR p l.length (encL l ++ r) = .ok l (encL l).length
  | [], r, _ => rfl
  | x :: q, r, h => by
    have hx := h x (by simp)
    have ih := list_ok p q r (fun y hy => h y (by simp [hy]))
    rw [List.length_cons, listR, encL, List.append_assoc, hx]
    simp only
    rw [List.drop_left, ih, List.length_append]
theorem fields_ok (p : List UInt8 → Got PVal) : ∀ (fn : List ByteArray) (fv : List PVal) (last : ByteArray) (r : List UInt8), fn.length = fv.length → (∀ a ∈ fn, utf a = true ∧ 1 ≤ a.size ∧ a.size ≤ 24) → rising (last :: fn) = true → (∀ x ∈ fv, ∀ r, p (x.enc ++ r) = .ok x x.enc.length) →
    fieldsR p fv.length last (encF fn fv ++ r) = .ok (fn, fv) (encF fn fv).length
  | [], [], last, r, _, _, _, _ => rfl
  | [], _ :: _, _, _, h, _, _, _ => by simp at h
  | _ :: _, [], _, _, h, _, _, _ => by simp at h
  | a :: ar, x :: q, last, r, hl, hn, hr, h => by
    obtain ⟨hu, h1, h2⟩ := hn a (by simp)
    have hx := h x (by simp)
    simp only [rising, Bool.and_eq_true] at hr
    have ih := fields_ok p ar q a r (by simpa using hl) (fun y hy => hn y (by simp [hy])) hr.2 (fun y hy => h y (by simp [hy]))
    have eL : encF (a :: ar) (x :: q) ++ r = (varint a.size ++ a.data.toList) ++ (x.enc ++ (encF ar q ++ r)) := by simp [encF]
    rw [List.length_cons, fieldsR, eL, str_ok hu h1 h2 (by omega), encF]
    simp only
    rw [hr.1]
    have e1 : (varint a.size ++ a.data.toList).length = (varint a.size).length + a.size := by rw [List.length_append]; simp
    have e2 : ((varint a.size ++ a.data.toList) ++ (x.enc ++ (encF ar q ++ r))).drop ((varint a.size).length + a.size) = x.enc ++ (encF ar q ++ r) := by rw [← e1, List.drop_left]
    rw [e2, hx]
    simp only
    have e3 : ((varint a.size ++ a.data.toList) ++ (x.enc ++ (encF ar q ++ r))).drop ((varint a.size).length + a.size + x.enc.length) = encF ar q ++ r := by rw [← List.drop_drop, e2, List.drop_left]
    rw [e3, ih]
    simp only [Bool.true_eq_false, if_false, List.length_append]
    congr 1
    simp; omega

/-- What a value must be that its bytes are read. -/
def PVal.sound (V : PVal) : Prop := V.all formedB = true ∧ V.all spelledB = true ∧ V.all fewB = true ∧ V.fits
theorem sound_list {k n : Int} {s : ByteArray} {l : List PVal} {fn : List ByteArray} {fv : List PVal} (h : (PVal.mk k n s l fn fv).sound) (h5 : k = 5) : ∀ x ∈ l, x.sound := by
  intro x hx
  subst h5
  obtain ⟨h1, h2, h3, h4⟩ := h
  simp only [PVal.all, allL_eq, Bool.and_eq_true, if_true, List.all_eq_true] at h1 h2 h3
  simp only [PVal.fits, fitsL_iff] at h4
  exact ⟨h1.2 x hx, h2.2 x hx, h3.2 x hx, h4.2.2.2.2.2.2.2.1 x hx⟩
theorem sound_fields {k n : Int} {s : ByteArray} {l : List PVal} {fn : List ByteArray} {fv : List PVal} (h : (PVal.mk k n s l fn fv).sound) (h6 : k = 6) : ∀ x ∈ fv, x.sound := by
  intro x hx
  subst h6
  obtain ⟨h1, h2, h3, h4⟩ := h
  simp only [PVal.all, allL_eq, Bool.and_eq_true, List.all_eq_true, show ¬ (6 : Int) = 5 by omega, if_false, if_true] at h1 h2 h3
  simp only [PVal.fits, fitsL_iff] at h4
  exact ⟨h1.2 x hx, h2.2 x hx, h3.2 x hx, h4.2.2.2.2.2.2.2.2 x hx⟩
theorem sizeL_mem {l : List PVal} {x : PVal} (h : x ∈ l) : x.size ≤ sizeL l := by
  induction l with
  | nil => cases h
  | cons y r ih =>
    simp only [sizeL]
    rcases List.mem_cons.1 h with rfl | h
    · omega
    · have := ih h; omega
theorem depthL_mem {l : List PVal} {x : PVal} (h : x ∈ l) : x.depth ≤ depthL l := by
  induction l with
  | nil => cases h
  | cons y r ih =>
    simp only [depthL]
    rcases List.mem_cons.1 h with rfl | h
    · omega
    · have := ih h; omega
theorem blt_empty {a : ByteArray} (h : 1 ≤ a.size) : blt ByteArray.empty a = true := by
  unfold blt
  rw [ByteArray.toList_eq, ByteArray.toList_eq]
  cases hd : a.data.toList with
  | nil =>
    have : a.data.toList.length = a.size := by simp
    rw [hd] at this; simp at this; omega
  | cons x r => rfl
theorem rising_cons {a : ByteArray} {fn : List ByteArray} (h : rising fn = true) (hb : ∀ b, fn.head? = some b → blt a b = true) : rising (a :: fn) = true := by
  cases fn with
  | nil => rfl
  | cons b r =>
    rw [rising, hb b rfl, h]; rfl

set_option maxHeartbeats 1000000 in
/-- What is written is read. -/
theorem val_enc (V : PVal) : ∀ (m : Nat) (r : List UInt8), V.sound → V.depth ≤ m → V.size ≤ 2048 → valR m (V.enc ++ r) = .ok V V.enc.length := by
  induction V using PVal.ind with
  | h k n s l fn fv hl hf =>
    intro m r hs hd hz
    have hs0 := hs
    obtain ⟨h1, h2, h3, h4⟩ := hs
    simp only [PVal.all, Bool.and_eq_true, formedB, decide_eq_true_eq, spelledB, fewB] at h1 h2 h3
    obtain ⟨⟨⟨⟨⟨⟨⟨hk, hb⟩, hn0⟩, hs4⟩, hl5⟩, hf6⟩, hris⟩, hA1⟩ := h1
    obtain ⟨⟨hus, hun⟩, hA2⟩ := h2
    obtain ⟨⟨⟨hl32, hf32⟩, hnm⟩, hA3⟩ := h3
    simp only [PVal.fits] at h4
    obtain ⟨hk64, hn64, hslim, hfnlim, hlen, _, _, _, _⟩ := h4
    have hp : ∀ p : Option (List UInt8 → Got PVal), (valR m = headR p) → valR m ((PVal.mk k n s l fn fv).enc ++ r) = headR p ((PVal.mk k n s l fn fv).enc ++ r) := fun p h => by rw [h]
    have hkn : (UInt8.ofNat (k % 256).toNat).toNat = k.toNat := by rw [ofNat_toNat (by omega)]; omega
    have hval : ∃ p, valR m = headR p ∧ (∀ q, m = q + 1 → p = some (valR q)) := by
      cases m with
      | zero => exact ⟨none, rfl, fun q h => by cases h⟩
      | succ q => exact ⟨some (valR q), rfl, fun q' h => by injection h with h; subst h; rfl⟩
    obtain ⟨p, hvp, hps⟩ := hval
    rw [hvp, PVal.enc, List.cons_append]
    simp only [headR, hkn]
    by_cases k1 : k = 1
    · subst k1
      have e1 := empty_of (hs4 (by omega))
      have e2 := hn0 (by omega) (by omega)
      have e3 := List.eq_nil_of_length_eq_zero (hl5 (by omega))
      have e4 := List.eq_nil_of_length_eq_zero (hf6 (by omega))
      subst e1 e2 e3 e4
      obtain rfl := List.eq_nil_of_length_eq_zero hlen
      rfl
    by_cases k2 : k = 2
    · subst k2
      have e1 := empty_of (hs4 (by omega))
      have e3 := List.eq_nil_of_length_eq_zero (hl5 (by omega))
      have e4 := List.eq_nil_of_length_eq_zero (hf6 (by omega))
      subst e1 e3 e4
      obtain rfl := List.eq_nil_of_length_eq_zero hlen
      rcases hb rfl with rfl | rfl <;> rfl
    by_cases k3 : k = 3
    · subst k3
      have e1 := empty_of (hs4 (by omega))
      have e3 := List.eq_nil_of_length_eq_zero (hl5 (by omega))
      have e4 := List.eq_nil_of_length_eq_zero (hf6 (by omega))
      subst e1 e3 e4
      obtain rfl := List.eq_nil_of_length_eq_zero hlen
      have ht := turned_lt (n := n) hn64
      simp only [show (3 : Int) ≠ 2 by omega, if_false, if_true, show (3 : Int).toNat = 3 from rfl, show ¬ (3 : Nat) = 1 by omega, show ¬ (3 : Nat) = 2 by omega]
      rw [num_varint ht]
      simp only [unturn_turned, List.length_cons]
      congr 1
      omega
    by_cases k4 : k = 4
    · subst k4
      have e2 := hn0 (by omega) (by omega)
      have e3 := List.eq_nil_of_length_eq_zero (hl5 (by omega))
      have e4 := List.eq_nil_of_length_eq_zero (hf6 (by omega))
      subst e2 e3 e4
      obtain rfl := List.eq_nil_of_length_eq_zero hlen
      have hsz : s.size ≤ 2048 := by simp [PVal.size] at hz; omega
      simp only [show (4 : Int) ≠ 2 by omega, show (4 : Int) ≠ 3 by omega, if_false, if_true, show (4 : Int).toNat = 4 from rfl, show ¬ (4 : Nat) = 1 by omega, show ¬ (4 : Nat) = 2 by omega, show ¬ (4 : Nat) = 3 by omega]
      rw [str_ok hus (by omega) hsz (by omega)]
      simp only [List.length_cons, List.length_append]
      congr 1
      simp; omega
    by_cases k5 : k = 5
    · subst k5
      have e1 := empty_of (hs4 (by omega))
      have e2 := hn0 (by omega) (by omega)
      have e4 := List.eq_nil_of_length_eq_zero (hf6 (by omega))
      subst e1 e2 e4
      obtain rfl := List.eq_nil_of_length_eq_zero hlen
      simp only [PVal.depth, if_true] at hd
      obtain ⟨q, rfl⟩ : ∃ q, m = q + 1 := ⟨m - 1, by omega⟩
      rw [hps q rfl]
      simp only [PVal.size, show (5 : Int) ≠ 2 by omega, show (5 : Int) ≠ 3 by omega, show (5 : Int) ≠ 4 by omega, if_false, if_true] at hz
      have hL := list_ok (valR q) l r (fun x hx r => hl x hx q r (sound_list hs0 rfl x hx) (by have := depthL_mem hx; omega) (by have := sizeL_mem hx; omega))
      simp only [show (5 : Int) ≠ 2 by omega, show (5 : Int) ≠ 3 by omega, show (5 : Int) ≠ 4 by omega, if_false, if_true, show (5 : Int).toNat = 5 from rfl, show ¬ (5 : Nat) = 1 by omega, show ¬ (5 : Nat) = 2 by omega, show ¬ (5 : Nat) = 3 by omega, show ¬ (5 : Nat) = 4 by omega]
      rw [List.append_assoc, num_varint (by omega)]
      simp only
      rw [if_neg (by omega), List.drop_left, hL]
      simp only [List.length_cons, List.length_append]
      congr 1
      omega
    · obtain rfl : k = 6 := by omega
      have e1 := empty_of (hs4 (by omega))
      have e2 := hn0 (by omega) (by omega)
      have e3 := List.eq_nil_of_length_eq_zero (hl5 (by omega))
      subst e1 e2 e3
      simp only [PVal.depth, show (6 : Int) ≠ 5 by omega, if_false, if_true] at hd
      obtain ⟨q, rfl⟩ : ∃ q, m = q + 1 := ⟨m - 1, by omega⟩
      rw [hps q rfl]
      simp only [PVal.size, show (6 : Int) ≠ 2 by omega, show (6 : Int) ≠ 3 by omega, show (6 : Int) ≠ 4 by omega, show (6 : Int) ≠ 5 by omega, if_false, if_true] at hz
      have hnames : ∀ a ∈ fn, utf a = true ∧ 1 ≤ a.size ∧ a.size ≤ 24 := fun a ha => by
        have h := List.all_eq_true.1 hnm a ha
        simp only [decide_eq_true_eq] at h
        exact ⟨List.all_eq_true.1 hun a ha, h⟩
      have hF := fields_ok (valR q) fn fv ByteArray.empty r hlen hnames (rising_cons hris (fun b hb => blt_empty (hnames b (List.mem_of_mem_head? hb)).2.1))
        (fun x hx r => hf x hx q r (sound_fields hs0 rfl x hx) (by have := depthL_mem hx; omega) (by have := sizeL_mem hx; omega))
      simp only [show (6 : Int) ≠ 2 by omega, show (6 : Int) ≠ 3 by omega, show (6 : Int) ≠ 4 by omega, show (6 : Int) ≠ 5 by omega, if_false, if_true, show (6 : Int).toNat = 6 from rfl, show ¬ (6 : Nat) = 1 by omega, show ¬ (6 : Nat) = 2 by omega, show ¬ (6 : Nat) = 3 by omega, show ¬ (6 : Nat) = 4 by omega, show ¬ (6 : Nat) = 5 by omega]
      rw [List.append_assoc, num_varint (by omega)]
      simp only
      rw [if_neg (by omega), List.drop_left, hF]
      simp only [List.length_cons, List.length_append]
      congr 1
      omega

/-- The first c bytes are these. -/
def Is (l : List UInt8) (c : Nat) (e : List UInt8) : Prop := c = e.length ∧ l.take c = e
theorem Is.add {l : List UInt8} {c k : Nat} {e f : List UInt8} (h : Is l c e) (h' : Is (l.drop c) k f) : Is l (c + k) (e ++ f) :=
  ⟨by rw [List.length_append, h.1, h'.1], by rw [List.take_add, h.2, h'.2]⟩
theorem Is.le {l : List UInt8} {c : Nat} {e : List UInt8} (h : Is l c e) : c ≤ l.length := by
  have := congrArg List.length h.2
  rw [List.length_take, ← h.1] at this
  omega
theorem Is.cut {l : List UInt8} {c : Nat} {e : List UInt8} (h : Is l c e) : l = e ++ l.drop c := by rw [← h.2, List.take_append_drop]
theorem Is.cons {x : UInt8} {r : List UInt8} {c : Nat} {e : List UInt8} (h : Is r c e) : Is (x :: r) (1 + c) (x :: e) :=
  ⟨by rw [List.length_cons, h.1]; omega, by rw [Nat.add_comm, List.take_succ_cons, h.2]⟩
theorem num_is {l : List UInt8} {n c : Nat} (h : numR 0 0 l = .ok n c) : n < 18446744073709551616 ∧ Is l c (varint n) := by
  have := num_inv h
  exact ⟨this.1, this.2.1, this.2.2.1⟩
theorem txt_is {l : List UInt8} {n c : Nat} {s : ByteArray} (h : txtR n l = .ok s c) : s.size = n ∧ utf s = true ∧ Is l c s.data.toList := by
  unfold txtR at h
  split at h
  · cases h
  split at h
  · cases h
  rename_i h1 h2
  injection h with h3 h4
  subst h4
  have hd : s.data.toList = l.take n := by rw [← h3]
  have hl : s.data.toList.length = s.size := by simp
  rw [hd, List.length_take] at hl
  refine ⟨by omega, ?_, by rw [hd, List.length_take]; omega, hd.symm⟩
  unfold utf
  rw [hd]
  simpa using h2
theorem str_is {least most : Nat} {e : Int} {l : List UInt8} {s : ByteArray} {c : Nat} (h : strR least most e l = .ok s c) : least ≤ s.size ∧ s.size ≤ most ∧ utf s = true ∧ Is l c (varint s.size ++ s.data.toList) := by
  unfold strR at h
  split at h
  · cases h
  rename_i n k hn
  split at h
  · cases h
  rename_i hr
  split at h
  · cases h
  rename_i t j ht
  injection h with h1 h2
  subst h1 h2
  obtain ⟨e1, e2, e3⟩ := txt_is ht
  subst e1
  exact ⟨by omega, by omega, e2, (num_is hn).2.add e3⟩
theorem list_is {p : List UInt8 → Got PVal} {M : PVal → Prop} (hp : ∀ l x c, p l = .ok x c → M x ∧ Is l c x.enc) : ∀ (m : Nat) (l : List UInt8) (xs : List PVal) (c : Nat), listR p m l = .ok xs c → xs.length = m ∧ (∀ x ∈ xs, M x) ∧ Is l c (encL xs)
  | 0, l, xs, c, h => by
    injection h with h1 h2
    subst h1 h2
    exact ⟨rfl, by simp, rfl, by simp [encL]⟩
  | m + 1, l, xs, c, h => by
    rw [listR] at h
    split at h
    · cases h
    rename_i x k hx
    split at h
    · cases h
    rename_i ys j hy
    injection h with h1 h2
    subst h1 h2
    obtain ⟨a1, a2, a3⟩ := list_is hp m _ _ _ hy
    obtain ⟨b1, b2⟩ := hp _ _ _ hx
    refine ⟨by simp [a1], fun z hz => ?_, b2.add a3⟩
    rcases List.mem_cons.1 hz with rfl | hz
    · exact b1
    · exact a2 z hz
theorem fields_is {p : List UInt8 → Got PVal} {M : PVal → Prop} (hp : ∀ l x c, p l = .ok x c → M x ∧ Is l c x.enc) : ∀ (m : Nat) (last : ByteArray) (l : List UInt8) (fn : List ByteArray) (fv : List PVal) (c : Nat), fieldsR p m last l = .ok (fn, fv) c →
    fn.length = m ∧ fv.length = m ∧ (∀ x ∈ fv, M x) ∧ (∀ a ∈ fn, utf a = true ∧ 1 ≤ a.size ∧ a.size ≤ 24) ∧ rising (last :: fn) = true ∧ Is l c (encF fn fv)
  | 0, last, l, fn, fv, c, h => by
    injection h with h1 h2
    injection h1 with h3 h4
    subst h2 h3 h4
    exact ⟨rfl, rfl, by simp, by simp, rfl, rfl, by simp [encF]⟩
  | m + 1, last, l, fn, fv, c, h => by
    rw [fieldsR] at h
    split at h
    · cases h
    rename_i nm k hn
    split at h
    · cases h
    rename_i hb
    split at h
    · cases h
    rename_i x j hx
    split at h
    · cases h
    rename_i fn' fv' i hi
    injection h with h1 h2
    injection h1 with h3 h4
    subst h2 h3 h4
    obtain ⟨a1, a2, a3, a4, a5, a6⟩ := fields_is hp m _ _ _ _ _ hi
    obtain ⟨n1, n2, n3, n4⟩ := str_is hn
    obtain ⟨b1, b2⟩ := hp _ _ _ hx
    refine ⟨by simp [a1], by simp [a2], fun z hz => ?_, fun z hz => ?_, ?_, ?_⟩
    · rcases List.mem_cons.1 hz with rfl | hz
      · exact b1
      · exact a3 z hz
    · rcases List.mem_cons.1 hz with rfl | hz
      · exact ⟨n3, n1, n2⟩
      · exact a4 z hz
    · rw [rising, a5]; simpa using hb
    · have e : encF (nm :: fn') (x :: fv') = (varint nm.size ++ nm.data.toList) ++ (x.enc ++ encF fn' fv') := rfl
      rw [e, Nat.add_assoc]
      refine n4.add (b2.add ?_)
      rw [List.drop_drop]; exact a6
theorem depthL_le {l : List PVal} {m : Nat} (h : ∀ x ∈ l, x.depth ≤ m) : depthL l ≤ m := by
  induction l with
  | nil => simp [depthL]
  | cons y r ih =>
    have h1 := h y (by simp)
    have h2 := ih (fun x hx => h x (by simp [hx]))
    simp only [depthL]; omega
theorem allL_of {q : PVal → Bool} {l : List PVal} (h : ∀ x ∈ l, x.all q = true) : allL q l = true := by rw [allL_eq]; exact List.all_eq_true.2 h
theorem rising_tail {a : ByteArray} {fn : List ByteArray} (h : rising (a :: fn) = true) : rising fn = true := by
  cases fn with
  | nil => rfl
  | cons b r => rw [rising, Bool.and_eq_true] at h; exact h.2

theorem head_is {m : Nat} {p : Option (List UInt8 → Got PVal)} (hp : ∀ q, p = some q → 1 ≤ m ∧ ∀ l x c, q l = .ok x c → (x.sound ∧ x.depth + 1 ≤ m) ∧ Is l c x.enc) (l : List UInt8) (V : PVal) (c : Nat) (h : headR p l = .ok V c) :
    (V.sound ∧ V.depth ≤ m) ∧ Is l c V.enc := by
  cases l with
  | nil => cases h
  | cons k r =>
    simp only [headR] at h
    have hk8 := k.toNat_lt
    have hb : ∀ n : Nat, k.toNat = n → UInt8.ofNat (((n : Int) % 256).toNat) = k := fun n e => by
      subst e
      apply UInt8.toNat_inj.1
      rw [UInt8.toNat_ofNat']; omega
    split at h
    · rename_i k1
      injection h with h1 h2
      subst h1 h2
      refine ⟨⟨⟨by simp [PVal.all, formedB, rising, ByteArray.toList_eq], rfl, rfl, by simp [PVal.fits, fitsL, I64, Lim]⟩, by simp [PVal.depth]⟩, rfl, ?_⟩
      simp only [PVal.enc]
      rw [show UInt8.ofNat (((1 : Int) % 256).toNat) = k from hb 1 k1]
      simp
    split at h
    · rename_i k2
      split at h
      · cases h
      rename_i d q
      split at h
      · cases h
      rename_i hd
      injection h with h1 h2
      subst h1 h2
      have hd8 := d.toNat_lt
      have hn : (d.toNat : Int) = 0 ∨ (d.toNat : Int) = 1 := by omega
      refine ⟨⟨⟨?_, rfl, rfl, ?_⟩, by simp [PVal.depth]⟩, by simp [PVal.enc], ?_⟩
      · simp [PVal.all, formedB, rising, ByteArray.toList_eq]
        omega
      · simp only [PVal.fits, fitsL, I64, Lim]
        simp
        omega
      · simp only [PVal.enc, if_true]
        rw [show UInt8.ofNat (((2 : Int) % 256).toNat) = k from hb 2 k2]
        have : UInt8.ofNat (((d.toNat : Int) % 256).toNat) = d := by
          apply UInt8.toNat_inj.1
          rw [UInt8.toNat_ofNat']; omega
        rw [this]; simp
    split at h
    · rename_i k3
      split at h
      · cases h
      rename_i n j hn
      injection h with h1 h2
      subst h1 h2
      obtain ⟨n1, n2⟩ := num_is hn
      have hi := unturn_in n1
      refine ⟨⟨⟨?_, rfl, rfl, ?_⟩, by simp [PVal.depth]⟩, ?_⟩
      · simp [PVal.all, formedB, rising, ByteArray.toList_eq]
      · unfold I64 at hi
        simp only [PVal.fits, fitsL, I64, Lim]
        simp
        omega
      · have e : (PVal.mk 3 (unturn n) ByteArray.empty [] [] []).enc = k :: varint n := by
          simp only [PVal.enc]
          rw [show UInt8.ofNat (((3 : Int) % 256).toNat) = k from hb 3 k3]
          simp [turned_unturn]
        rw [e]
        exact n2.cons
    split at h
    · rename_i k4
      split at h
      · cases h
      rename_i s j hs
      injection h with h1 h2
      subst h1 h2
      obtain ⟨s1, s2, s3, s4⟩ := str_is hs
      refine ⟨⟨⟨?_, ?_, rfl, ?_⟩, by simp [PVal.depth]⟩, ?_⟩
      · simp [PVal.all, formedB, rising]
      · simp [PVal.all, spelledB, s3]
      · simp only [PVal.fits, fitsL, I64, Lim]
        simp
        omega
      · have e : (PVal.mk 4 0 s [] [] []).enc = k :: (varint s.size ++ s.data.toList) := by
          simp only [PVal.enc]
          rw [show UInt8.ofNat (((4 : Int) % 256).toNat) = k from hb 4 k4]
          simp
        rw [e]
        exact s4.cons
    split at h
    · rename_i k5
      split at h
      · cases h
      rename_i q
      obtain ⟨hm, hq⟩ := hp q rfl
      split at h
      · cases h
      rename_i n j hn
      split at h
      · cases h
      rename_i h32
      split at h
      · cases h
      rename_i xs i hx
      injection h with h1 h2
      subst h1 h2
      obtain ⟨n1, n2⟩ := num_is hn
      obtain ⟨a1, a2, a3⟩ := list_is hq _ _ _ _ hx
      have hdm := depthL_le (m := m - 1) (fun x hx => by have := (a2 x hx).2; omega)
      refine ⟨⟨⟨?_, ?_, ?_, ?_⟩, by simp [PVal.depth]; omega⟩, ?_⟩
      · have := allL_of (q := formedB) (fun x hx => (a2 x hx).1.1)
        simp [PVal.all, formedB, rising, ByteArray.toList_eq, this]
      · have := allL_of (q := spelledB) (fun x hx => (a2 x hx).1.2.1)
        simp [PVal.all, spelledB, this]
        rfl
      · have := allL_of (q := fewB) (fun x hx => (a2 x hx).1.2.2.1)
        simp [PVal.all, fewB, this]
        omega
      · have := (fitsL_iff xs).2 (fun x hx => (a2 x hx).1.2.2.2)
        simp only [PVal.fits, I64, Lim]
        simp [fitsL, this]
        omega
      · have e : (PVal.mk 5 0 ByteArray.empty xs [] []).enc = k :: (varint n ++ encL xs) := by
          simp only [PVal.enc]
          rw [show UInt8.ofNat (((5 : Int) % 256).toNat) = k from hb 5 k5, a1]
          simp
        rw [e, Nat.add_assoc]
        exact (n2.add a3).cons
    split at h
    · rename_i k6
      split at h
      · cases h
      rename_i q
      obtain ⟨hm, hq⟩ := hp q rfl
      split at h
      · cases h
      rename_i n j hn
      split at h
      · cases h
      rename_i h32
      split at h
      · cases h
      rename_i fn fv i hx
      injection h with h1 h2
      subst h1 h2
      obtain ⟨n1, n2⟩ := num_is hn
      obtain ⟨a1, a2, a3, a4, a5, a6⟩ := fields_is hq _ _ _ _ _ _ hx
      have hdm := depthL_le (m := m - 1) (fun x hx => by have := (a3 x hx).2; omega)
      refine ⟨⟨⟨?_, ?_, ?_, ?_⟩, by simp [PVal.depth]; omega⟩, ?_⟩
      · have := allL_of (q := formedB) (fun x hx => (a3 x hx).1.1)
        simp [PVal.all, formedB, rising_tail a5, ByteArray.toList_eq, this]
      · have := allL_of (q := spelledB) (fun x hx => (a3 x hx).1.2.1)
        simp [PVal.all, spelledB, this]
        exact ⟨rfl, fun a ha => (a4 a ha).1⟩
      · have := allL_of (q := fewB) (fun x hx => (a3 x hx).1.2.2.1)
        simp [PVal.all, fewB, this]
        exact ⟨by omega, fun a ha => (a4 a ha).2⟩
      · have := (fitsL_iff fv).2 (fun x hx => (a3 x hx).1.2.2.2)
        simp only [PVal.fits, I64, Lim]
        simp [fitsL, this]
        exact ⟨fun a ha => by have := (a4 a ha).2; omega, by omega, by omega⟩
      · have e : (PVal.mk 6 0 ByteArray.empty [] fn fv).enc = k :: (varint n ++ encF fn fv) := by
          simp only [PVal.enc]
          rw [show UInt8.ofNat (((6 : Int) % 256).toNat) = k from hb 6 k6, a2]
          simp
        rw [e, Nat.add_assoc]
        exact (n2.add a6).cons
    · cases h
/-- What is read was written so. -/
theorem val_is : ∀ (m : Nat) (l : List UInt8) (V : PVal) (c : Nat), valR m l = .ok V c → (V.sound ∧ V.depth ≤ m) ∧ Is l c V.enc
  | 0, l, V, c, h => head_is (p := none) (fun q hq => by cases hq) l V c h
  | m + 1, l, V, c, h => head_is (p := some (valR m)) (fun q hq => by
      obtain rfl := Option.some.inj hq
      refine ⟨by omega, fun l x c hx => ?_⟩
      obtain ⟨⟨h1, h2⟩, h3⟩ := val_is m l x c hx
      exact ⟨⟨h1, by omega⟩, h3⟩) l V c h
end Go.Proofs.YtihcegakghmdfaaDoor
