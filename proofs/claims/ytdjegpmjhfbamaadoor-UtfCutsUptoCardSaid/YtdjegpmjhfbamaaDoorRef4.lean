/-
  Walks: the reference's zig, Varint.
-/
import Derived.Test.YtdjegpmjhfbamaaDoorRef1
import Derived.Test.YtdjegpmjhfbamaaDoorBuf
import Derived.Test.YtdjegpmjhfbamaaDoorVal15
namespace Go.Proofs.YtdjegpmjhfbamaaDoor
open Go.RowKit Go.Proofs

theorem info_u8 : (Tryd.prog.info? 5).map (fun i => (i.zero, i.size, i.bytes)) = some (some (.int .u8 0), 1, 1) := by kernel_rfl
theorem byte8 : ∃ i, Byte8 Tryd.prog 45 5 i := by
  obtain ⟨i, hi, hz0, hz1, hz2⟩ := info_parts info_u8
  exact ⟨i, Tryd.underlying45, hi, hz0, hz1, hz2⟩

/-- New memory, and a slice of these bytes in it. -/
def Made (w w' : World) (l : List UInt8) (v : Value) : Prop := ∃ g cap, v = .slice (some ⟨g, 0, none⟩) l.length cap ∧ Buf w.heap.size 5 w w' l v

theorem zig_calls (n : Int) (hn : -9223372036854775808 ≤ n ∧ n ≤ 9223372036854775807) (w : World) : Calls Tryd.prog 89 #[.int .i64 n] w fun e w' => e = .returned (.int .u64 (turned n)) ∧ w = w' := by
  by_cases h : n < 0
  · have ht : Hid ((turned n : Int) = -2 * n - 1) := by show _ = _; unfold turned; rw [if_pos h]; omega
    generalize turned n = T at *
    go_enter Tryd.func89, Tryd.ntmps89
    go_wp2_with fail
    go_ret
    refine ⟨?_, rfl⟩
    have := ht.out
    first | go_num | (congr 2; omega)
  · have ht : Hid ((turned n : Int) = 2 * n) := by show _ = _; unfold turned; rw [if_neg h]; omega
    generalize turned n = T at *
    go_enter Tryd.func89, Tryd.ntmps89
    go_wp2_with fail
    go_ret
    refine ⟨?_, rfl⟩
    have := ht.out
    first | go_num | (congr 2; omega)

theorem varint_length (n : Nat) : (varint n).length = digits n := by
  induction n using Nat.strongRecOn with
  | _ n ih =>
    rw [varint, digits]
    split
    · rfl
    · rw [List.length_cons, ih _ (by omega)]
theorem varint_ne (n : Nat) : varint n ≠ [] := by rw [varint]; split <;> simp

set_option maxRecDepth 100000 in
theorem rvarint_calls (n : Nat) (hn : n < 18446744073709551616) (w : World) :
    Calls Tryd.prog 88 #[.int .u64 n] w fun e w' => ∃ v, e = .returned v ∧ Made w w' (varint n) v := by
  obtain ⟨i, hP⟩ := byte8
  have hlen := varint_length n
  have hdig := digits_le n hn
  generalize hV : varint n = V at *
  replace hV := hid hV
  have hVl : V.length ≤ 10 := by omega
  clear hlen
  go_enter Tryd.func88, Tryd.ntmps88
  go_wp2_with fail
  go_loopg [0, 3] n (fun gk m o wr => ∃ (a : Nat) (l : List UInt8), gk = a ∧ a < 18446744073709551616 ∧ m = .int .u64 a ∧ l ++ varint a = V ∧ Buf w.heap.size 5 w wr l o)
  case atStart => exact ⟨n, [], rfl, hn, rfl, hV.out, Buf.nil (Below.refl _ _) (Nat.le_refl _)⟩
  case round =>
    obtain ⟨a, l, rfl, ha, rfl, hl, hb⟩ := hrel
    have hll : l.length ≤ 10 := by rw [← hl, List.length_append] at hVl; omega
    replace hl := hid hl
    by_cases h128 : 128 ≤ gk
    · obtain ⟨b, hbb⟩ : ∃ b : UInt8, b = UInt8.ofNat (gk % 128 + 128) := ⟨_, rfl⟩
      have hv : Hid (varint gk = b :: varint (gk / 128)) := by show _ = _; rw [varint, if_neg (by omega), hbb]
      have hz : Hid (((gk : Int) % 128 + 128) = b.toNat) := by
        show _ = _
        rw [hbb, UInt8.toNat_ofNat']; omega
      clear hbb
      go_wp2_with (first
        | (at_builtin; (refine wpList_buf_made rfl _ _ rfl hP rfl (hb.later (below_new _ _)) [b] wr.heap.size 1 1 rfl rfl (src_new [b] _ (by first | (rw [show bcells [b] = [.int .u8 b.toNat] from rfl, ← hz.out]; done) | (simp only [bcells, List.map_cons, List.map_nil, ← hz.out]; go_num)) rfl) (by simp; omega) ?_); intro v' w2 hb2))
      go_roundg (gk / 128)
      case measure => omega
      case rel => exact ⟨gk / 128, l ++ [b], rfl, by omega, by go_num, by rw [← hl.out, hv.out]; simp, hb2⟩
    · obtain ⟨b, hbb⟩ : ∃ b : UInt8, b = UInt8.ofNat gk := ⟨_, rfl⟩
      have hv : Hid (varint gk = [b]) := by show _ = _; rw [varint, if_pos (by omega), hbb]
      have hz : Hid ((gk : Int) = b.toNat) := by show _ = _; rw [hbb, UInt8.toNat_ofNat']; omega
      clear hbb
      go_wp2_with (first
        | (at_builtin; (refine wpList_buf_made rfl _ _ rfl hP rfl (hb.later (below_new _ _)) [b] wr.heap.size 1 1 rfl rfl (src_new [b] _ (by first | (rw [show bcells [b] = [.int .u8 b.toNat] from rfl, ← hz.out]; done) | (simp only [bcells, List.map_cons, List.map_nil, ← hz.out]; go_num)) rfl) (by simp; omega) ?_); intro v' w2 hb2))
      go_ret
      have he : l ++ [b] = V := by rw [← hl.out, hv.out]
      rw [he] at hb2
      obtain ⟨g, cap, hform, _⟩ := hb2.form (by rw [← hV.out]; exact varint_ne n)
      subst hform
      exact ⟨_, rfl, g, cap, rfl, hb2⟩
end Go.Proofs.YtdjegpmjhfbamaaDoor
