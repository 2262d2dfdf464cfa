/-
  Walk: utf's Unquote: a scope with five labels.
-/
import Derived.Test.YtdjegpmjhfbamaaDoorUtf4
import Derived.Test.YtdjegpmjhfbamaaDoorUtf3
import Derived.Test.YtdjegpmjhfbamaaDoorByt
import Derived.ScopeJumps
import Derived.WalkMore
import Derived.Laws.IdiomStrings
import Derived.Lib.BufferRead
namespace Go.Proofs.YtdjegpmjhfbamaaDoor
open Go.RowKit Go.Proofs

/-- As Q; by a goto: what J says of its label. -/
def jumps (J : Nat → Act → World → Prop) (Q : Exit → Act → World → Prop) : Exit → Act → World → Prop
  | .goto l, a, w => J l a w
  | e, a, w => Q e a w
@[go_sem] theorem jumps_ret (J : Nat → Act → World → Prop) (Q : Exit → Act → World → Prop) (a : Act) (w : World) : jumps J Q .ret a w = Q .ret a w := rfl
@[go_sem] theorem jumps_normal (J : Nat → Act → World → Prop) (Q : Exit → Act → World → Prop) (a : Act) (w : World) : jumps J Q .normal a w = Q .normal a w := rfl

section
variable {P : Program} {a : Act} {w : World} {Q : Exit → Act → World → Prop}
/-- A scope in which the run jumps from label to label: what holds at each jump, and a ghost that every jump lowers. -/
theorem wp_scope_labels {c : Code} (J : Nat → Nat → Act → World → Prop)
    (first : c.wp P (jumps (fun l a w => ∃ g, J g l a w) Q) a w)
    (pass : ∀ g l a w, J g l a w → ∃ rest, findLabel c l = some rest ∧ rest.wp P (jumps (fun l' a' w' => ∃ g', g' < g ∧ J g' l' a' w') Q) a w) : (Code.scope c).wp P Q a w := by
  intro b k cs
  have key : ∀ g l a w, J g l a w → ∃ e a' w', Q e a' w' ∧ ∃ rest, findLabel c l = some rest ∧ Arrives P (lone (b.at a (.code rest :: .inScope c :: k)) cs w) b k cs e a' w' := by
    intro g
    induction g using Nat.strongRecOn with
    | _ g ih =>
      intro l a w hJ
      obtain ⟨rest, hf, hw⟩ := pass g l a w hJ
      obtain ⟨e, a₁, w₁, hq, harr⟩ := hw b (.inScope c :: k) cs
      cases e with
      | normal => exact ⟨.normal, a₁, w₁, hq, rest, hf, Steps.trans harr (.one step_inScope)⟩
      | exit id => exact ⟨.exit id, a₁, w₁, hq, rest, hf, fun k' hk => harr k' (by simp [exitTo, hk])⟩
      | goto l' =>
        obtain ⟨g', hlt, hJ'⟩ := hq
        obtain ⟨e₂, a₂, w₂, hq₂, rest', hf', harr₂⟩ := ih g' hlt l' a₁ w₁ hJ'
        exact ⟨e₂, a₂, w₂, hq₂, rest, hf, .of_steps (harr _ (by simp [gotoIn, hf'])) harr₂⟩
      | ret => exact ⟨_, a₁, w₁, hq, rest, hf, harr⟩
      | panic ch => exact ⟨_, a₁, w₁, hq, rest, hf, harr⟩
      | outgrown => exact ⟨_, a₁, w₁, hq, rest, hf, harr⟩
  obtain ⟨e, a₁, w₁, hq, harr⟩ := first b (.inScope c :: k) cs
  cases e with
  | normal => exact ⟨.normal, a₁, w₁, hq, .head step_scope (Steps.trans harr (.one step_inScope))⟩
  | exit id => exact ⟨.exit id, a₁, w₁, hq, fun k' hk => .head step_scope (harr k' (by simp [exitTo, hk]))⟩
  | goto l' =>
    obtain ⟨g, hJ'⟩ := hq
    obtain ⟨e₂, a₂, w₂, hq₂, rest, hf, harr₂⟩ := key g l' a₁ w₁ hJ'
    exact ⟨e₂, a₂, w₂, hq₂, .of_steps (.head step_scope (harr _ (by simp [gotoIn, hf]))) harr₂⟩
  | ret => exact ⟨_, a₁, w₁, hq, .of_steps (.one step_scope) harr⟩
  | panic ch => exact ⟨_, a₁, w₁, hq, .of_steps (.one step_scope) harr⟩
  | outgrown => exact ⟨_, a₁, w₁, hq, .of_steps (.one step_scope) harr⟩

theorem pass_use {c : Code} {l : Nat} {rest' : Code} (hf' : findLabel c l = some (Code.skip.seq rest')) (h : ∃ rest, findLabel c l = some (Code.skip.seq rest) ∧ rest.wp P Q a w) : rest'.wp P Q a w := by
  obtain ⟨rest, hf, hw⟩ := h
  rw [hf] at hf'
  cases hf'
  exact hw
theorem wp_scope_pass {c : Code} (J : Nat → Nat → Act → World → Prop)
    (pass : ∀ g l a w, J g l a w → ∃ rest, findLabel c l = some (Code.skip.seq rest) ∧ rest.wp P (jumps (fun l' a' w' => ∃ g', g' < g ∧ J g' l' a' w') Q) a w)
    (first : (∀ g l a w, J g l a w → ∃ rest, findLabel c l = some (Code.skip.seq rest) ∧ rest.wp P (jumps (fun l a w => ∃ g, J g l a w) Q) a w) → c.wp P (jumps (fun l a w => ∃ g, J g l a w) Q) a w) : (Code.scope c).wp P Q a w :=
  wp_scope_labels J (first fun g l a w h => by
    obtain ⟨rest, hf, hw⟩ := pass g l a w h
    refine ⟨rest, hf, Code.wp_mono (fun e a w h => ?_) hw⟩
    cases e with
    | goto l' => obtain ⟨g', _, h⟩ := h; exact ⟨g', h⟩
    | _ => exact h) (fun g l a w h => let ⟨rest, hf, hw⟩ := pass g l a w h; ⟨_, hf, wp_seq (wp_skip hw)⟩)
theorem conv_buf {B t e u : Nat} {W0 w : World} {l : List UInt8} {v : Value} (ht : P.underlying t = some (.slice e)) (he : P.underlying e = some (.int .u8)) (hu : P.underlying u = some .string) (h : Buf B e W0 w l v) :
    (convert t u v).run P w = .ok (.string ⟨l.toArray⟩) w := by
  by_cases hl : l = []
  · subst hl
    rcases h.1.2 with ⟨rfl, _⟩ | ⟨g, cap, cur, fz, rfl, _⟩
    · exact Lib.run_convert_nil_bytes w t u e 0 ht he hu
    · exact run_convert_bytes_back w t u e ⟨g, 0, none⟩ cap [] ht he hu (fun j hj => by simp at hj)
  · obtain ⟨g, cap, rfl, _⟩ := h.form hl
    exact run_convert_bytes_back w t u e ⟨g, 0, none⟩ cap l ht he hu (fun j hj => h.src j _ (by simp [bcells, List.getElem?_eq_getElem hj]))
end

theorem arune_calls {B : Nat} {W0 w : World} {l : List UInt8} {v : Value} (h : Buf B 5 W0 w l v) (r : Int) (hr0 : -2147483648 ≤ r) (hr1 : r ≤ 2147483647) (hlen : l.length + 4 ≤ 140737488355328) :
    Calls Tryd.prog 69 #[v, .int .i32 r] w fun e w' => ∃ v', e = .returned v' ∧ Buf B 5 W0 w' (l ++ Lib.encodeRune r) v' := by
  refine (Tryd.utf8_AppendRune_row B v l.length (bcells l) r hr0 hr1 w h.1 hlen h.2.2).mono ?_
  rintro e w' ⟨v', rfl, hown, o, hg⟩
  refine ⟨v', rfl, ?_⟩
  have h1 : Buf B 5 W0 (w.alloc o) l v := h.later (below_new _ _)
  have e1 : Lib.runeCells r = bcells (Lib.encodeRune r) := (Lib.byteCells_encodeRune r).symm
  have hl : (Lib.runeCells r).length = (Lib.encodeRune r).length := by rw [e1, bcells_length]
  unfold Buf
  rw [List.length_append, bcells_append, ← e1, ← hl]
  exact Lib.OwnBuf.grown h1 hown hg

theorem go_decode (s : ByteArray) (h : s.size ≠ 0) : Lib.decodeGo s = Lib.decodeL s.data.toList := by
  unfold Lib.decodeGo
  rw [if_neg h, Lib.decode_N, Lib.decodeL_N]
  simp
theorem step_decode (l : List UInt8) : stepD l = if (Lib.decodeL l).1 = 65533 ∧ (Lib.decodeL l).2 = 1 then none else some (Lib.decodeL l) := by
  unfold stepD
  rw [next_decode _ _ _ _ _ (UInt8.toNat_lt _) (UInt8.toNat_lt _) (UInt8.toNat_lt _) (UInt8.toNat_lt _), ← Lib.decodeL_N]
theorem ext_drop (s : ByteArray) (p : Nat) : (s.extract p s.size).data.toList = s.data.toList.drop p := by
  rw [Lib.extract_data]
  rw [List.take_of_length_le]
  simp

def uqF (s : ByteArray) (out x5 : Value) (p : Nat) (v : Nat → Value) : Act := { tmps := #[.string s, v 1, v 2, v 3, out, x5, v 6, v 7, v 8, .int .i64 (p : Int), v 10, v 11, v 12, v 13, v 14, v 15, v 16, v 17, v 18, v 19, v 20, v 21, v 22, v 23, v 24, v 25, v 26, v 27, v 28, v 29, v 30, v 31, v 32, v 33, v 34, v 35, v 36, v 37, v 38, v 39, v 40, v 41, v 42, v 43, v 44, v 45, v 46, v 47, v 48, v 49, v 50, v 51, v 52, v 53, v 54, v 55, v 56, v 57, v 58, v 59, v 60, v 61, v 62, v 63, v 64, v 65, v 66, v 67, v 68, v 69, v 70, v 71, v 72, v 73, v 74, v 75, v 76, v 77, v 78, v 79, v 80, v 81, v 82, v 83, v 84, v 85, v 86, v 87, v 88, v 89, v 90, v 91, v 92, v 93, v 94, v 95, v 96, v 97, v 98, v 99, v 100, v 101, v 102, v 103, v 104, v 105, v 106, v 107, v 108, v 109, v 110, v 111, v 112, v 113, v 114, v 115, v 116, v 117, v 118, v 119, v 120, v 121, v 122, v 123, v 124, v 125, v 126, v 127, v 128, v 129, v 130, v 131, v 132, v 133, v 134, v 135, v 136, v 137, v 138, v 139, v 140, v 141, v 142, v 143, v 144, v 145, v 146, v 147, v 148, v 149, v 150, v 151, v 152, v 153], defers := [] }
/-- What is left of a quoted text, from place p on, makes R out of what has been read. -/
def Left (s : ByteArray) (R : Int × List UInt8) (p : Nat) (acc : List UInt8) : Prop := ∃ n, s.size - p < n ∧ unqG n (s.data.toList.drop p) acc = R
/-- What holds at each label. -/
def UqJ (s : ByteArray) (B : Nat) (w0 : World) (R : Int × List UInt8) (g l : Nat) (a : Act) (w : World) : Prop :=
  ∃ (out x5 : Value) (acc : List UInt8) (p : Nat) (v : Nat → Value), a = uqF s out x5 p v ∧ Buf B 5 w0 w acc out ∧ acc.length ≤ p ∧
    ((l = 2 ∧ g = 5 * (s.size - p) + 4 ∧ p ≤ s.size ∧ Left s R p acc) ∨
     (l = 0 ∧ g = 0 ∧ p < s.size ∧ R = if s.data.toList.drop (p + 1) = [] then (0, acc) else (4, [])) ∨
     (l = 1 ∧ g = 5 * (s.size - p) + 3 ∧ p < s.size ∧ bt s p = 92 ∧ Left s R p acc) ∨
     (l = 3 ∧ g = 5 * (s.size - p) + 2 ∧ p + 1 < s.size ∧ bt s p = 92 ∧ bt s (p + 1) = 117 ∧ Left s R p acc) ∨
     (l = 4 ∧ ∃ q n, p = q + 6 ∧ acc.length ≤ q ∧ g = 5 * (s.size - q) + 1 ∧ q + 5 < s.size ∧ bt s q = 92 ∧ bt s (q + 1) = 117 ∧ x5 = .int .i32 ((n : Nat) : Int) ∧ fourP (s.data.toList.drop (q + 2)) = some n ∧ 55296 ≤ n ∧ n < 57344 ∧ Left s R q acc))
def UqQ (w0 : World) (R : Int × List UInt8) (e : Ending) (w : World) : Prop := e = .returned (.tuple #[.string ⟨R.2.toArray⟩, .int .i64 R.1]) ∧ Below w0.heap.size w0 w

/-- What is left, one part read. -/
theorem Left.part {s : ByteArray} {R : Int × List UInt8} {p : Nat} {acc : List UInt8} (h : Left s R p acc) :
    match partP (s.data.toList.drop p) with
    | (e, _, _) => R = if e = -1 then (if s.data.toList.drop (p + 1) = [] then (0, acc) else (4, [])) else if e = 0 then R else (e, []) := by
  obtain ⟨n, hn, h⟩ := h
  cases n with
  | zero => omega
  | succ n =>
    rw [unqG] at h
    generalize partP (s.data.toList.drop p) = x at *
    obtain ⟨e, b, k⟩ := x
    simp only at h ⊢
    split
    · rename_i h1
      rw [if_pos h1, List.drop_drop] at h
      exact h.symm
    · rename_i h1
      rw [if_neg h1] at h
      split
      · rfl
      · rename_i h2
        rw [if_neg h2] at h
        exact h.symm
theorem Left.next {s : ByteArray} {R : Int × List UInt8} {p k : Nat} {b acc : List UInt8} (h : Left s R p acc) (hp : partP (s.data.toList.drop p) = (0, b, k)) (hk : 1 ≤ k) (hle : p + k ≤ s.size) : Left s R (p + k) (acc ++ b) := by
  obtain ⟨n, hn, h⟩ := h
  cases n with
  | zero => omega
  | succ n =>
    rw [unqG, hp] at h
    simp only at h
    rw [if_neg (by decide), if_pos trivial, List.drop_drop] at h
    exact ⟨n, by omega, h⟩
theorem Left.bad {s : ByteArray} {R : Int × List UInt8} {p : Nat} {e : Int} {b acc : List UInt8} {k : Nat} (h : Left s R p acc) (hp : partP (s.data.toList.drop p) = (e, b, k)) (h1 : e ≠ -1) (h0 : e ≠ 0) : R = (e, []) := by
  have := h.part
  rw [hp] at this
  simp only at this
  rw [if_neg h1, if_neg h0] at this
  exact this
theorem Left.fin {s : ByteArray} {R : Int × List UInt8} {p : Nat} {b acc : List UInt8} {k : Nat} (h : Left s R p acc) (hp : partP (s.data.toList.drop p) = (-1, b, k)) : R = if s.data.toList.drop (p + 1) = [] then (0, acc) else (4, []) := by
  have := h.part
  rw [hp] at this
  simpa using this

theorem part_end (r : List UInt8) : partP (34 :: r) = (-1, [], 1) := rfl
theorem part_low {c : UInt8} {r : List UInt8} (h1 : c ≠ 34) (h2 : c ≠ 92) (h3 : c.toNat < 32) : partP (c :: r) = (4, [], 0) := by
  simp only [partP]
  rw [if_neg h1, if_pos h2, if_pos h3]
theorem part_bad {c : UInt8} {r : List UInt8} (h1 : c ≠ 34) (h2 : c ≠ 92) (h3 : ¬ c.toNat < 32) (h : stepD (c :: r) = none) : partP (c :: r) = (11, [], 0) := by
  simp only [partP]
  rw [if_neg h1, if_pos h2, if_neg h3, h]
theorem part_ok {c : UInt8} {r : List UInt8} {v sz : Nat} (h1 : c ≠ 34) (h2 : c ≠ 92) (h3 : ¬ c.toNat < 32) (h : stepD (c :: r) = some (v, sz)) : partP (c :: r) = (0, (c :: r).take sz, sz) := by
  simp only [partP]
  rw [if_neg h1, if_pos h2, if_neg h3, h]
theorem part_one : partP [92] = (4, [], 0) := rfl
theorem part_letter {d : UInt8} {r : List UInt8} {x : Nat} (h : backP d.toNat = some x) : partP (92 :: d :: r) = (0, [UInt8.ofNat x], 2) := by
  simp only [partP]
  rw [if_neg (by decide), if_neg (by decide), h]
theorem part_no {d : UInt8} {r : List UInt8} (h : backP d.toNat = none) (h2 : d ≠ 117) : partP (92 :: d :: r) = (4, [], 0) := by
  simp only [partP]
  rw [if_neg (by decide), if_neg (by decide), h]
  simp only
  rw [if_pos h2]
theorem part_u (r : List UInt8) : partP (92 :: 117 :: r) = match fourP r with
    | none => (4, [], 0)
    | some n =>
      if 55296 ≤ n ∧ n < 57344 then
        if n < 56320 ∧ (r.drop 4).take 2 = [92, 117] then match fourP (r.drop 6) with
          | none => (11, [], 0)
          | some m => if 56320 ≤ m ∧ m < 57344 then (0, Lib.encodeRune ((65536 + (n - 55296) * 1024 + (m - 56320) : Nat) : Int), 12) else (11, [], 0)
        else (11, [], 0)
      else (0, Lib.encodeRune (n : Int), 6) := by
  simp only [partP]
  rw [if_neg (by decide), if_neg (by decide)]
  have : backP (117 : UInt8).toNat = none := rfl
  rw [this]
  simp only
  rw [if_neg (by simp)]
  rfl
theorem pre_take (l : List UInt8) : Lib.hasPrefix l [92, 117] = true ↔ l.take 2 = [92, 117] := by
  match l with
  | [] => simp [Lib.hasPrefix]
  | [a] => simp [Lib.hasPrefix]
  | a :: b :: r => simp [Lib.hasPrefix, List.isPrefixOf]; constructor <;> (rintro ⟨h1, h2⟩; exact ⟨h1.symm, h2.symm⟩)
theorem four_len {l : List UInt8} {n : Nat} (h : fourP l = some n) : 4 ≤ l.length := by
  rw [four_acc] at h
  split at h
  · assumption
  · cases h
theorem bt_get {s : ByteArray} {p : Nat} (h : p < s.size) : ∃ x, s.data.toList.drop p = x :: s.data.toList.drop (p + 1) ∧ x.toNat = bt s p := by
  have hl : p < s.data.toList.length := by simpa using h
  refine ⟨_, List.drop_eq_getElem_cons hl, ?_⟩
  unfold bt
  simp [List.getD, List.getElem?_eq_getElem hl]
theorem u8_of {x : UInt8} {n : Nat} (h : x.toNat = n) (hn : n < 256) : x = UInt8.ofNat n := by subst h; simp
theorem take_ext (s : ByteArray) (p k : Nat) : (s.extract p (p + k)).data.toList = (s.data.toList.drop p).take k := by
  rw [Lib.extract_data]
  congr 1
  omega
end Go.Proofs.YtdjegpmjhfbamaaDoor
