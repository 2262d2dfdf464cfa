/-
  Walks: value.hash's bytes, byte, number, value; Hash.
-/
import Derived.Test.YtdjegpmjhfbamaaDoorVal14
import Derived.Lib.Zigzag
namespace Go.Proofs.YtdjegpmjhfbamaaDoor
open Go.RowKit Go.Proofs

/-- A world in which, of what was there, block g alone may have turned. -/
structure Save (g : Nat) (w w' : World) : Prop where
  os : w'.os = w.os
  tape : w'.tape = w.tape
  output : w'.output = w.output
  size : w.heap.size ≤ w'.heap.size
  block : ∀ k, k < w.heap.size → k ≠ g → w'.heap[k]? = w.heap[k]?
theorem Save.refl (g : Nat) (w : World) : Save g w w := ⟨rfl, rfl, rfl, Nat.le_refl _, fun _ _ _ => rfl⟩
theorem Save.trans {g : Nat} {a b c : World} (h : Save g a b) (k : Save g b c) : Save g a c :=
  ⟨k.os.trans h.os, k.tape.trans h.tape, k.output.trans h.output, Nat.le_trans h.size k.size, fun i hi hg => (k.block i (Nat.lt_of_lt_of_le hi h.size) hg).trans (h.block i hi hg)⟩
theorem Save.of_below {g : Nat} {w w' : World} (h : Below w.heap.size w w') : Save g w w' := ⟨h.os, h.tape, h.output, h.size, fun k hk _ => h.block k hk⟩
theorem Save.below {g B : Nat} {w w' : World} (h : Save g w w') (hB : B ≤ g) (hw : g < w.heap.size) : Below B w w' := ⟨h.os, h.tape, h.output, h.size, fun k hk => h.block k (by omega) (by omega)⟩
theorem Save.set (w : World) (g j : Nat) (u : Value) : Save g w (w.setCell ⟨g, j, none⟩ u) := ⟨rfl, rfl, rfl, by simp [World.setCell], fun k _ hk => Below.heap_setCell _ _ _ _ hk⟩
/-- The hash's cell. -/
def Cell (w : World) (g : Nat) (h : Int) : Prop := w.heap[g]? = some (.cells #[.int .u64 h] 119 (0, 0))
theorem Cell.at_ {w : World} {g : Nat} {h : Int} (c : Cell w g h) : w.cell? ⟨g, 0, none⟩ = some (.int .u64 h) := cell_of_one c
theorem Cell.free {w : World} {g : Nat} {h : Int} (c : Cell w g h) : w.frozen? ⟨g, 0, none⟩ = false := free_of_one c
theorem Cell.lt {w : World} {g : Nat} {h : Int} (c : Cell w g h) : g < w.heap.size := lt_of_block c
theorem Cell.keep {w w' : World} {g : Nat} {h : Int} (c : Cell w g h) (hb : Below w.heap.size w w') : Cell w' g h := (hb.block g c.lt).trans c

def mix1 (h : Int) (b : UInt8) : Int := IntKind.u64.wrap (bits .xor .u64 h b.toNat * 1099511628211)
def mix (h : Int) (l : List UInt8) : Int := l.foldl mix1 h
theorem mix_append (h : Int) (a b : List UInt8) : mix h (a ++ b) = mix (mix h a) b := List.foldl_append
theorem mix_cons (h : Int) (b : UInt8) (l : List UInt8) : mix h (b :: l) = mix (mix h [b]) l := rfl
theorem mix1_in (h : Int) (b : UInt8) : 0 ≤ mix1 h b ∧ mix1 h b < 18446744073709551616 := by
  unfold mix1
  rw [IntKind.wrap_u64]
  omega

set_option maxRecDepth 100000 in
set_option maxHeartbeats 1000000 in
theorem bytes_calls (s : ByteArray) (hs : s.size ≤ 140737488355328) (g : Nat) (h : Int) (w : World) (hc : Cell w g h) :
    Calls Tryd.prog 118 #[.pointer (some ⟨g, 0, none⟩), .string s] w fun e w' => (∃ v, e = .returned v) ∧ Cell w' g (mix h s.data.toList) ∧ Save g w w' := by
  have hc := hid hc
  go_enter Tryd.func118, Tryd.ntmps118
  go_wp2_with fail
  go_loopg [7] s.size (fun n i wr => ∃ j : Nat, n + j = s.size ∧ i = .int .i64 j ∧ Cell wr g (mix h (s.data.toList.take j)) ∧ Save g w wr)
  case atStart => exact ⟨0, by omega, rfl, hc.out, Save.refl _ _⟩
  case round =>
    obtain ⟨j, hj, rfl, hcr, hsr⟩ := hrel
    by_cases hlt : j < s.size
    · have A := Later.cell hcr.at_
      have hcr := hid hcr
      generalize hm : mix h (s.data.toList.take j) = m at *
      have hm := hid hm
      go_wp2_with fail
      refine wp_later_tail 11 (by kernel_rfl) (by kernel_rfl) ?_
      simp only [List.take_succ_cons, List.take_zero, List.drop_succ_cons, List.drop_zero]
      repeat (go_big_quiet_step (fail))
      refine wpQuiet_nil ?_
      intro _ hw'
      obtain ⟨p, hp⟩ := hw'
      subst hp
      clear A
      have hcp := (hcr.out.keep p.h)
      have A := hcp.at_
      have B := hcp.free
      have hcp := hid hcp
      go_wp2_with fail
      go_roundg (s.size - (j + 1))
      case measure => omega
      case rel =>
        refine ⟨j + 1, by omega, by go_num, ?_, (hsr.trans (Save.of_below p.h)).trans (Save.set _ _ _ _)⟩
        have e : mix h (s.data.toList.take (j + 1)) = IntKind.u64.wrap (bits .xor .u64 m (IntKind.u64.wrap (s[j].toNat : Int)) * 1099511628211) := by
          have hl : j < s.data.toList.length := by simpa using hlt
          have hlt8 := s[j].toNat_lt
          rw [List.take_succ_eq_append_getElem hl, mix_append, hm.out, show IntKind.u64.wrap (s[j].toNat : Int) = (s[j].toNat : Int) by rw [IntKind.wrap_u64]; omega]
          rfl
        rw [e]
        exact one_setCell hcp.out
    · go_wp2_with fail
      go_returns
      obtain rfl : j = s.size := by omega
      refine ⟨⟨_, rfl⟩, ?_, hsr⟩
      have : s.data.toList.take s.size = s.data.toList := List.take_of_length_le (by simp)
      rw [this] at hcr
      exact hcr

set_option maxRecDepth 100000 in
theorem byte_calls (b : UInt8) (z : Int) (hz : z = b.toNat) (g : Nat) (h : Int) (w : World) (hc : Cell w g h) :
    Calls Tryd.prog 116 #[.pointer (some ⟨g, 0, none⟩), .int .u8 z] w fun e w' => (∃ v, e = .returned v) ∧ Cell w' g (mix h [b]) ∧ Save g w w' := by
  subst hz
  have hB := hid (fun w hc => bytes_calls ⟨#[b]⟩ (by simp [ByteArray.size]) g h w hc)
  have hcv := run_convert_bytes_back (P := Tryd.prog) (w.alloc (.cells #[.int .u8 (b.toNat : Int)] 5)) 45 9 5 ⟨w.heap.size, 0, none⟩ 1 [b] Tryd.underlying45 Tryd.underlying5 Tryd.underlying9 (fun j hj => by
    have hj0 : j = 0 := by simpa using hj
    subst hj0
    exact cells_new w _ rfl [.int .u8 (b.toNat : Int)] _ 0 _ rfl)
  have hcv : (convert 45 9 (.slice (some ⟨w.heap.size, 0, none⟩) 1 1)).run Tryd.prog (w.alloc (.cells #[.int .u8 (b.toNat : Int)] 5)) = .ok (.string ⟨#[b]⟩) (w.alloc (.cells #[.int .u8 (b.toNat : Int)] 5)) := hcv
  have hc := hid hc
  go_enter Tryd.func116, Tryd.ntmps116
  go_wp2_with fail
  refine (hB.out _ (hc.out.keep (below_new _ _))).mono ?_
  rintro e w1 ⟨⟨v, rfl⟩, h1, h2⟩
  go_wp2_with fail
  go_returns
  exact ⟨⟨_, rfl⟩, h1, (Save.of_below (below_new _ _)).trans h2⟩

theorem or128 (z : Int) (h0 : 0 ≤ z) (h1 : z < 256) : bits .or .u8 z 128 = z % 128 + 128 := by
  obtain ⟨k, rfl⟩ := Int.eq_ofNat_of_zero_le h0
  have hk : k < 256 := by omega
  have h : ∀ k : Fin 256, bits .or .u8 (k.val : Int) 128 = (k.val : Int) % 128 + 128 := by decide +kernel
  exact h ⟨k, hk⟩

set_option maxRecDepth 100000 in
theorem number_calls (n : Nat) (hn : n < 18446744073709551616) (g : Nat) (h : Int) (w : World) (hc : Cell w g h) :
    Calls Tryd.prog 117 #[.pointer (some ⟨g, 0, none⟩), .int .u64 n] w fun e w' => (∃ v, e = .returned v) ∧ Cell w' g (mix h (varint n)) ∧ Save g w w' := by
  have hc := hid hc
  have hB := hid byte_calls
  go_enter Tryd.func117, Tryd.ntmps117
  go_wp2_with fail
  go_loopg [1] n (fun gk m wr => ∃ (a : Nat) (h' : Int), gk = a ∧ a < 18446744073709551616 ∧ m = .int .u64 a ∧ mix h' (varint a) = mix h (varint n) ∧ Cell wr g h' ∧ Save g w wr)
  case atStart => exact ⟨n, h, rfl, hn, rfl, rfl, hc.out, Save.refl _ _⟩
  case round =>
    obtain ⟨a, h', rfl, ha, rfl, hmix, hcr, hsr⟩ := hrel
    have hmix := hid hmix
    have hcr := hid hcr
    by_cases h128 : 128 ≤ gk
    · obtain ⟨b, hb⟩ : ∃ b : UInt8, b = UInt8.ofNat (gk % 128 + 128) := ⟨_, rfl⟩
      have ho : bits .or .u8 ((gk : Int) % 256) 128 = b.toNat := by
        rw [or128 ((gk : Int) % 256) (by omega) (by omega), hb]
        have : (UInt8.ofNat (gk % 128 + 128)).toNat = gk % 128 + 128 := by rw [UInt8.toNat_ofNat']; omega
        rw [this]; omega
      have ho := hid ho
      have hv : Hid (varint gk = b :: varint (gk / 128)) := by show _ = _; rw [varint, if_neg (by omega), hb]
      clear hb
      go_wp2_with fail
      refine (hB.out b _ (by first | exact ho.out | rfl) g h' wr hcr.out).mono ?_
      rintro e w1 ⟨⟨v, rfl⟩, h1, h2⟩
      go_wp2_with fail
      go_roundg (gk / 128)
      case measure => omega
      case rel => exact ⟨gk / 128, mix h' [b], rfl, by omega, by go_num, by rw [← hmix.out, hv.out]; exact (mix_cons h' b _).symm, h1, hsr.trans h2⟩
    · obtain ⟨b, hb⟩ : ∃ b : UInt8, b = UInt8.ofNat gk := ⟨_, rfl⟩
      have hv : Hid (varint gk = [b]) := by show _ = _; rw [varint, if_pos (by omega), hb]
      have hz : Hid ((gk : Int) = b.toNat) := by show _ = _; rw [hb, UInt8.toNat_ofNat']; omega
      clear hb
      go_wp2_with fail
      refine (hB.out b _ (by first | exact hz.out | rfl) g h' wr hcr.out).mono ?_
      rintro e w1 ⟨⟨v, rfl⟩, h1, h2⟩
      go_wp2_with fail
      go_returns
      rw [← hv.out, hmix.out] at h1
      exact ⟨⟨_, rfl⟩, h1, hsr.trans h2⟩

mutual
/-- A value's bytes. -/
def PVal.enc : PVal → List UInt8
  | .mk k n s l fn fv => UInt8.ofNat (k % 256).toNat :: (if k = 2 then [UInt8.ofNat (n % 256).toNat] else if k = 3 then varint (turned n) else if k = 4 then varint s.size ++ s.data.toList
      else if k = 5 then varint l.length ++ encL l else if k = 6 then varint fv.length ++ encF fn fv else [])
def encL : List PVal → List UInt8
  | [] => []
  | x :: r => x.enc ++ encL r
def encF : List ByteArray → List PVal → List UInt8
  | a :: ar, x :: r => (varint a.size ++ a.data.toList) ++ (x.enc ++ encF ar r)
  | _, _ => []
end
theorem encL_append (a b : List PVal) : encL (a ++ b) = encL a ++ encL b := by
  induction a with
  | nil => rfl
  | cons x r ih => simp [encL, ih]
theorem encL_succ {l : List PVal} {i : Nat} {x : PVal} (h : l[i]? = some x) : encL (l.take (i + 1)) = encL (l.take i) ++ x.enc := by
  rw [take_succ_of h, encL_append]; simp [encL]
theorem encF_succ : ∀ {fn : List ByteArray} {fv : List PVal} {i : Nat} {a : ByteArray} {x : PVal}, fn[i]? = some a → fv[i]? = some x →
    encF (fn.take (i + 1)) (fv.take (i + 1)) = encF (fn.take i) (fv.take i) ++ ((varint a.size ++ a.data.toList) ++ x.enc)
  | [], _, _, _, _, h, _ => by simp at h
  | _, [], _, _, _, _, h => by simp at h
  | b :: ar, y :: r, 0, a, x, h, h' => by
    have e1 : b = a := by simpa using h
    have e2 : y = x := by simpa using h'
    subst e1 e2
    simp [encF]
  | b :: ar, y :: r, i + 1, a, x, h, h' => by
    have := encF_succ (fn := ar) (fv := r) (i := i) (a := a) (x := x) (by simpa using h) (by simpa using h')
    simp only [List.take_succ_cons, encF, this]
    simp
end Go.Proofs.YtdjegpmjhfbamaaDoor
