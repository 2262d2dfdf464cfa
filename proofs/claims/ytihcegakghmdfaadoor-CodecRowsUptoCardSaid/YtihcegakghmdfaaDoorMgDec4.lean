/-
  Walk: the reader's value.
-/
import Derived.Test.YtihcegakghmdfaaDoorMgDec1
import Derived.Test.YtihcegakghmdfaaDoorMgVal14
import Derived.Deep.RegionHeld3
import Derived.Deep.RegionLaw
import Derived.Deep.CutBlock
import Derived.Laws.Shifts
namespace Go.Proofs.YtihcegakghmdfaaDoor
open Go.RowKit Go.Proofs

theorem info_fld : (Tryd.prog.info? 50).map (fun i => (i.zero, i.size, i.bytes)) = some (some (.agg #[.string ByteArray.empty, .int .i64 0, .int .i64 0, .string ByteArray.empty, .slice none 0 0, .slice none 0 0]), 6, 96) := by kernel_rfl
/-- A value that was told: its cells lead to memory that came up in the call. -/
def GiveV (B : Nat) (w' : World) (V : PVal) (v : Value) : Prop := ∃ cs, v = .agg cs.toArray ∧ Rd w' (From B w') V cs

/-- The reader, and the box of the value that is read. -/
structure VS (g : Nat) (bv : Value) (l : List UInt8) (w0 : World) (q : Nat) (cs : Array Value) (w : World) : Prop where
  at_ : At w g bv l q
  row : w.heap[w0.heap.size]? = some (.cells cs 25 (0, 0))
  save : Save g w0 w
  tb : Tb g w
  gl : g < w0.heap.size
section
variable {g : Nat} {bv : Value} {l : List UInt8} {w0 w : World} {q : Nat} {cs : Array Value}
theorem VS.lt (h : VS g bv l w0 q cs w) : w0.heap.size < w.heap.size := (Array.getElem?_eq_some_iff.1 h.row).1
theorem VS.cell (h : VS g bv l w0 q cs w) {j : Nat} {v : Value} (hj : cs[j]? = some v) : w.cell? ⟨w0.heap.size, j, none⟩ = some v := box_at h.row hj
theorem VS.free (h : VS g bv l w0 q cs w) (j : Nat) : w.frozen? ⟨w0.heap.size, j, none⟩ = false := box_free h.row j
theorem VS.call {w' : World} {q' : Nat} (h : VS g bv l w0 q cs w) (hs : Save g w w') (ha : At w' g bv l q') : VS g bv l w0 q' cs w' :=
  ⟨ha, (hs.block _ h.lt (by have := h.gl; omega)).trans h.row, h.save.trans hs, h.tb.save hs h.at_.lt, h.gl⟩
theorem VS.later {w' : World} (h : VS g bv l w0 q cs w) (hb : Below w.heap.size w w') : VS g bv l w0 q cs w' := h.call (Save.of_below hb) (h.at_.later hb)
theorem VS.drew (h : VS g bv l w0 q cs w) : VS g bv l w0 q cs w.drew := h.later (Below.refl _ _).drew
theorem VS.set (h : VS g bv l w0 q cs w) (j : Nat) (u : Value) : VS g bv l w0 q (cs.setIfInBounds j u) (w.setCell ⟨w0.heap.size, j, none⟩ u) := by
  have hs : Below w0.heap.size w (w.setCell ⟨w0.heap.size, j, none⟩ u) := (Below.refl _ _).setCell (p := ⟨w0.heap.size, j, none⟩) (Nat.le_refl _) u
  have hS : Save g w0 (w.setCell ⟨w0.heap.size, j, none⟩ u) := ⟨hs.os.trans h.save.os, hs.tape.trans h.save.tape, hs.output.trans h.save.output, Nat.le_trans h.save.size hs.size, fun k hk hg => (hs.block k hk).trans (h.save.block k hk hg)⟩
  refine ⟨h.at_.keep (fun b hb => hs.block b (by have := h.gl; omega)), row_setCell h.row, hS, ?_, h.gl⟩
  obtain ⟨w1, t1, t2, t3⟩ := h.tb
  exact ⟨w1, t1, t2.trans (hs.mono (by have := h.gl; omega)), t3⟩
theorem VS.grow {w' : World} (h : VS g bv l w0 q cs w) (hb : Below (w0.heap.size + 1) w w') : VS g bv l w0 q cs w' := by
  have hg := h.gl
  have hl := h.lt
  refine ⟨h.at_.keep (fun b hk => hb.block b (by omega)), (hb.block _ (by omega)).trans h.row, ⟨hb.os.trans h.save.os, hb.tape.trans h.save.tape, hb.output.trans h.save.output, Nat.le_trans h.save.size hb.size, fun k hk hne => (hb.block k (by omega)).trans (h.save.block k hk hne)⟩, ?_, h.gl⟩
  obtain ⟨w1, t1, t2, t3⟩ := h.tb
  exact ⟨w1, t1, t2.trans (hb.mono (by omega)), t3⟩
/-- What is told in a call: it lies apart from a slice of the caller's own. -/
theorem rd_apart {α : Type} {Rl : World → (Nat → Prop) → α → List Value → Prop} {sz e : Nat} {xs : List α} {vs : Value} {wr w6 : World} {X : PVal} {cs6 : List Value} (hr : Rd w6 (From wr.heap.size w6) X cs6) (ho : OwnG Rl sz (w0.heap.size + 1) (w0.heap.size + 1) e wr xs vs) (hl : w0.heap.size < wr.heap.size) (o : Obj) :
    Rd (w6.alloc o) (Apart (w0.heap.size + 1) (w6.alloc o) vs) X cs6 :=
  hr.keep (fun b hb => ⟨by have := hb.1; omega, by have := hb.2; simp; omega, fun e => by have := (ho.lt b e).2; have := hb.1; omega⟩) (fun b hb => (below_new w6 o).block b hb.2)
theorem own_slice {α : Type} {Rl : World → (Nat → Prop) → α → List Value → Prop} {sz A B e : Nat} {wr : World} {xs : List α} {vs : Value} (h : OwnG Rl sz A B e wr xs vs) : ∃ a m c, vs = .slice a m c := let ⟨a, c, h, _⟩ := h.form; ⟨a, _, c, h⟩
theorem own_keep {α : Type} {Rl : World → (Nat → Prop) → α → List Value → Prop} {sz e : Nat} (hR : RowRel Rl sz) {xs : List α} {vs : Value} {wr w6 : World} (ho : OwnG Rl sz (w0.heap.size + 1) (w0.heap.size + 1) e wr xs vs) (hv : VS g bv l w0 q cs wr) (h6 : Save g wr w6) :
    OwnG Rl sz (w0.heap.size + 1) (w0.heap.size + 1) e w6 xs vs :=
  ho.keep hR h6.size (fun b hb => h6.block b (ho.lt b hb).2 (by have := (ho.lt b hb).1; have := hv.gl; omega)) (fun b hb => h6.block b hb.2.1 (by have := hb.1; have := hv.gl; omega))
theorem own_call {α : Type} {Rl : World → (Nat → Prop) → α → List Value → Prop} {sz e : Nat} (hR : RowRel Rl sz) {xs : List α} {vs : Value} {wr w6 : World} (ho : OwnG Rl sz (w0.heap.size + 1) (w0.heap.size + 1) e wr xs vs) (hv : VS g bv l w0 q cs wr) (h6 : Save g wr w6) (o : Obj) :
    OwnG Rl sz (w0.heap.size + 1) (w0.heap.size + 1) e (w6.alloc o) xs vs :=
  (ho.keep hR h6.size (fun b hb => h6.block b (ho.lt b hb).2 (by have := (ho.lt b hb).1; have := hv.gl; omega)) (fun b hb => h6.block b hb.2.1 (by have := hb.1; have := hv.gl; omega))).later hR (below_new _ _)
end
theorem vs_new {g : Nat} {bv : Value} {l : List UInt8} {w : World} {p : Nat} (h : At w g bv l p) (hT : Tb g w) (cs : Array Value) : VS g bv l w p cs (w.alloc (.cells cs 25)) :=
  ⟨h.later (below_new _ _), heap_alloc_new w _, Save.of_below (below_new _ _), hT.save (Save.of_below (below_new _ _)) h.lt, h.lt⟩

def valE (hv : Nat) (v : Nat → Value) : Act := { tmps := #[v 0, v 1, v 2, v 3, .pointer (some ⟨hv, 0, none⟩), v 5, v 6, v 7, v 8, v 9, v 10, v 11, v 12, v 13, v 14, v 15, v 16, v 17, v 18, v 19, v 20, v 21, v 22, v 23, v 24, v 25, v 26, v 27, v 28, v 29, v 30, v 31, v 32, v 33, v 34, v 35, v 36, v 37, v 38, v 39, v 40, v 41, v 42, v 43, v 44, v 45, v 46, v 47, v 48, v 49, v 50, v 51, v 52, v 53, v 54, v 55, v 56, v 57, v 58, v 59, v 60, v 61, v 62, v 63, v 64, v 65, v 66, v 67, v 68, v 69, v 70, v 71, v 72, v 73, v 74, v 75, v 76, v 77, v 78, v 79, v 80, v 81, v 82, v 83, v 84, v 85, v 86, v 87, v 88, v 89, v 90, v 91, v 92, v 93, v 94, v 95, v 96, v 97, v 98, v 99, v 100, v 101, v 102, v 103], defers := [] }
theorem valE_mk {a : Act} (hv : Nat) (h : valE hv (fun i => a.tmps.getD i undef) = a) : ∃ v, a = valE hv v := ⟨_, h.symm⟩
def valF (g d hv : Nat) (v : Nat → Value) : Act := { tmps := #[.pointer (some ⟨g, 0, none⟩), .int .i64 (d : Int), v 2, v 3, .pointer (some ⟨hv, 0, none⟩), v 5, .string ⟨#[]⟩, v 7, v 8, v 9, v 10, v 11, v 12, v 13, v 14, v 15, v 16, v 17, v 18, v 19, v 20, v 21, v 22, v 23, v 24, v 25, v 26, v 27, v 28, v 29, v 30, v 31, v 32, v 33, v 34, v 35, v 36, v 37, v 38, v 39, v 40, v 41, v 42, v 43, v 44, v 45, v 46, v 47, v 48, v 49, v 50, v 51, v 52, v 53, v 54, v 55, v 56, v 57, v 58, v 59, v 60, v 61, v 62, v 63, v 64, v 65, v 66, v 67, v 68, v 69, v 70, v 71, v 72, v 73, v 74, v 75, v 76, v 77, v 78, v 79, v 80, v 81, v 82, v 83, v 84, v 85, v 86, v 87, v 88, v 89, v 90, v 91, v 92, v 93, v 94, v 95, v 96, v 97, v 98, v 99, v 100, v 101, v 102, v 103], defers := [] }
theorem val_mk {a : Act} (g d hv : Nat) (h : valF g d hv (fun i => a.tmps.getD i undef) = a) : ∃ v, a = valF g d hv v := ⟨_, h.symm⟩
/-- What holds at each label. -/
def ValJ (g d : Nat) (bv : Value) (l : List UInt8) (p : Nat) (w0 : World) (R : Got PVal) (n lab : Nat) (a : Act) (w : World) : Prop :=
  ∃ (v : Nat → Value),
    ((lab = 0 ∧ n = 0 ∧ (∃ v, a = valE w0.heap.size v) ∧ ∃ V c cs, R = .ok V c ∧ Rd w (From (w0.heap.size + 1) w) V cs ∧ VS g bv l w0 (p + c) cs.toArray w) ∨
     (lab = 1 ∧ n = 1 ∧ a = valF g d w0.heap.size v ∧ (∃ k, l.drop p = k :: l.drop (p + 1) ∧ k.toNat = 5) ∧ VS g bv l w0 (p + 1) #[.int .i64 5, .int .i64 0, .string ⟨#[]⟩, .slice none 0 0, .slice none 0 0] w) ∨
     (lab = 2 ∧ n = 1 ∧ a = valF g d w0.heap.size v ∧ (∃ k, l.drop p = k :: l.drop (p + 1) ∧ k.toNat = 6) ∧ VS g bv l w0 (p + 1) #[.int .i64 6, .int .i64 0, .string ⟨#[]⟩, .slice none 0 0, .slice none 0 0] w))

/-- What a value's first byte says, all but Lists and Docs. -/
theorem head_1 {q : Option (List UInt8 → Got PVal)} {k : UInt8} {r : List UInt8} (h : k.toNat = 1) : headR q (k :: r) = .ok (.mk 1 0 ByteArray.empty [] [] []) 1 := by
  simp [headR, h]
theorem head_2 {q : Option (List UInt8 → Got PVal)} {k : UInt8} {r : List UInt8} (h : k.toNat = 2) : headR q (k :: r) = match r with
    | [] => .bad 17
    | d :: _ => if 1 < d.toNat then .bad 4 else .ok (.mk 2 d.toNat ByteArray.empty [] [] []) 2 := by
  simp only [headR, h]; rfl
theorem head_3 {q : Option (List UInt8 → Got PVal)} {k : UInt8} {r : List UInt8} (h : k.toNat = 3) : headR q (k :: r) = match numR 0 0 r with
    | .bad e => .bad e
    | .ok n c => .ok (.mk 3 (unturn n) ByteArray.empty [] [] []) (1 + c) := by
  simp only [headR, h]; rfl
theorem head_4 {q : Option (List UInt8 → Got PVal)} {k : UInt8} {r : List UInt8} (h : k.toNat = 4) : headR q (k :: r) = match manyR 2048 2 r with
    | .bad e => .bad e
    | .ok n c => match txtR n (r.drop c) with
      | .bad e => .bad e
      | .ok s j => .ok (.mk 4 0 s [] [] []) (1 + (c + j)) := by
  simp only [headR, h, strR, manyR, show ¬ (4 : Nat) = 1 by omega, show ¬ (4 : Nat) = 2 by omega, show ¬ (4 : Nat) = 3 by omega, if_false, if_true]
  cases numR 0 0 r with
  | bad e => rfl
  | ok n c =>
    simp only [Nat.not_lt_zero, false_or]
    by_cases hm : 2048 < n
    · simp only [hm, if_true]
    · simp only [hm, if_false]
      cases txtR n (r.drop c) <;> rfl
theorem head_5 {q : Option (List UInt8 → Got PVal)} {k : UInt8} {r : List UInt8} (h : k.toNat = 5) : headR q (k :: r) = match q with
      | none => .bad 3
      | some p => match manyR 32 15 r with
        | .bad e => .bad e
        | .ok n c => match listR p n (r.drop c) with
          | .bad e => .bad e
          | .ok xs j => .ok (.mk 5 0 ByteArray.empty xs [] []) (1 + c + j) := by
  simp only [headR, h, manyR]
  cases q with
  | none => rfl
  | some p =>
    simp only [show ¬ (5 : Nat) = 1 by omega, show ¬ (5 : Nat) = 2 by omega, show ¬ (5 : Nat) = 3 by omega, show ¬ (5 : Nat) = 4 by omega, if_false, if_true]
    cases numR 0 0 r with
    | bad e => rfl
    | ok n c => simp only; by_cases h32 : 32 < n <;> simp only [h32, if_true, if_false] <;> rfl
theorem head_6 {q : Option (List UInt8 → Got PVal)} {k : UInt8} {r : List UInt8} (h : k.toNat = 6) : headR q (k :: r) = match q with
      | none => .bad 3
      | some p => match manyR 32 15 r with
        | .bad e => .bad e
        | .ok n c => match fieldsR p n ByteArray.empty (r.drop c) with
          | .bad e => .bad e
          | .ok (fn, fv) j => .ok (.mk 6 0 ByteArray.empty [] fn fv) (1 + c + j) := by
  simp only [headR, h, manyR]
  cases q with
  | none => rfl
  | some p =>
    simp only [show ¬ (6 : Nat) = 1 by omega, show ¬ (6 : Nat) = 2 by omega, show ¬ (6 : Nat) = 3 by omega, show ¬ (6 : Nat) = 4 by omega, show ¬ (6 : Nat) = 5 by omega, if_false, if_true]
    cases numR 0 0 r with
    | bad e => rfl
    | ok n c => simp only; by_cases h32 : 32 < n <;> simp only [h32, if_true, if_false] <;> rfl
theorem txt_size {n : Nat} {L : List UInt8} {s : ByteArray} {k : Nat} (hx : txtR n L = .ok s k) : s.size = n := by
  unfold txtR at hx
  split at hx
  · cases hx
  rename_i hl
  split at hx
  · cases hx
  injection hx with h1 h2
  subst h1
  show (List.toArray _).size = n
  rw [List.size_toArray, List.length_take]
  omega
theorem head_0 {q : Option (List UInt8 → Got PVal)} {k : UInt8} {r : List UInt8} (h : ¬ (1 ≤ k.toNat ∧ k.toNat ≤ 6)) : headR q (k :: r) = .bad 4 := by
  simp only [headR]
  rw [if_neg (by omega), if_neg (by omega), if_neg (by omega), if_neg (by omega), if_neg (by omega), if_neg (by omega)]
theorem rd_atom {w : World} {S : Nat → Prop} {k n : Int} {s : ByteArray} (hk : I64 k) (hn : I64 n) (hs : s.size ≤ 140737488355328) : Rd w S (.mk k n s [] [] []) [.int .i64 k, .int .i64 n, .string s, .slice none 0 0, .slice none 0 0] :=
  .mk (fun _ => []) (fun _ => []) hk hn hs (by simp) rfl (Nat.le_refl _) (by simp) (Nat.le_refl _) (by simp) (.inl rfl) (fun i x h => by simp at h) (.inl rfl) (fun i x h => by simp at h)

theorem less_tri : ∀ a b : List UInt8, (!Op.bytesLess a b && !a == b) = Op.bytesLess b a
  | [], [] => rfl
  | [], _ :: _ => rfl
  | _ :: _, [] => rfl
  | a :: x, b :: y => by
    have ih := less_tri x y
    simp only [Op.bytesLess]
    rcases Nat.lt_trichotomy a.toNat b.toNat with h | h | h
    · have h1 : a < b := h
      have h2 : ¬ b < a := fun k => by have : b.toNat < a.toNat := k; omega
      have h3 : a ≠ b := fun e => by subst e; omega
      simp [h1, h2, Ne.symm h3]
    · obtain rfl := UInt8.toNat_inj.1 h
      have h2 : ¬ a < a := fun k => by have : a.toNat < a.toNat := k; omega
      have e : ((a :: x) == (a :: y)) = (x == y) := by simp
      rw [e]
      simpa [h2] using ih
    · have h1 : b < a := h
      have h2 : ¬ a < b := fun k => by have : a.toNat < b.toNat := k; omega
      have h3 : a ≠ b := fun e => by subst e; omega
      simp [h1, h2, h3]
/-- What the first elements give, and what the rest says. -/
def Go1 (G : Got (List PVal)) (xs : List PVal) (c : Nat) : Got (List PVal) → Prop
  | .bad e => G = .bad e
  | .ok ys k => G = .ok (xs ++ ys) (c + k)
theorem go1_start (G : Got (List PVal)) : Go1 G [] 0 G := by
  cases G with
  | bad e => rfl
  | ok ys k => show _ = Got.ok ([] ++ ys) (0 + k); simp
theorem go1_step {G : Got (List PVal)} {xs : List PVal} {c m : Nat} {p : List UInt8 → Got PVal} {L : List UInt8} (h : Go1 G xs c (listR p (m + 1) L)) :
    match p L with
    | .bad e => G = .bad e
    | .ok x k => Go1 G (xs ++ [x]) (c + k) (listR p m (L.drop k)) := by
  rw [listR] at h
  cases hp : p L with
  | bad e => rw [hp] at h; exact h
  | ok x k =>
    rw [hp] at h
    simp only at h ⊢
    cases hl : listR p m (L.drop k) with
    | bad e => rw [hl] at h; exact h
    | ok ys j =>
      rw [hl] at h
      show G = .ok ((xs ++ [x]) ++ ys) (c + k + j)
      rw [show G = .ok (xs ++ (x :: ys)) (c + (k + j)) from h]
      simp [Nat.add_assoc]
theorem go1_end {G : Got (List PVal)} {xs : List PVal} {c : Nat} {p : List UInt8 → Got PVal} {L : List UInt8} (h : Go1 G xs c (listR p 0 L)) : G = .ok xs c := by
  have : G = .ok (xs ++ []) (c + 0) := h
  simpa using this
abbrev Flds := List (ByteArray × PVal)
def Go2 (G : Got (List ByteArray × List PVal)) (fs : Flds) (c : Nat) : Got (List ByteArray × List PVal) → Prop
  | .bad e => G = .bad e
  | .ok (fn, fv) k => G = .ok (fs.map Prod.fst ++ fn, fs.map Prod.snd ++ fv) (c + k)
theorem go2_start (G : Got (List ByteArray × List PVal)) : Go2 G [] 0 G := by
  cases G with
  | bad e => rfl
  | ok ys k => show _ = Got.ok ([] ++ ys.1, [] ++ ys.2) (0 + k); simp
theorem go2_step {G : Got (List ByteArray × List PVal)} {fs : Flds} {c m : Nat} {last : ByteArray} {p : List UInt8 → Got PVal} {L : List UInt8} (h : Go2 G fs c (fieldsR p (m + 1) last L)) :
    match strR 1 24 15 L with
    | .bad e => G = .bad e
    | .ok nm k => if blt last nm = false then G = .bad 4 else match p (L.drop k) with
      | .bad e => G = .bad e
      | .ok x j => Go2 G (fs ++ [(nm, x)]) (c + k + j) (fieldsR p m nm (L.drop (k + j))) := by
  rw [fieldsR] at h
  cases hs : strR 1 24 15 L with
  | bad e => rw [hs] at h; exact h
  | ok nm k =>
    rw [hs] at h
    simp only at h ⊢
    by_cases hb : blt last nm = false
    · rw [if_pos hb] at h ⊢; exact h
    · rw [if_neg hb] at h ⊢
      cases hp : p (L.drop k) with
      | bad e => rw [hp] at h; exact h
      | ok x j =>
        rw [hp] at h
        simp only at h ⊢
        cases hl : fieldsR p m nm (L.drop (k + j)) with
        | bad e => rw [hl] at h; exact h
        | ok ys i =>
          rw [hl] at h
          obtain ⟨fn, fv⟩ := ys
          show G = .ok ((fs ++ [(nm, x)]).map Prod.fst ++ fn, (fs ++ [(nm, x)]).map Prod.snd ++ fv) (c + k + j + i)
          rw [show G = .ok (fs.map Prod.fst ++ (nm :: fn), fs.map Prod.snd ++ (x :: fv)) (c + (k + j + i)) from h]
          simp [Nat.add_assoc]
theorem go2_end {G : Got (List ByteArray × List PVal)} {fs : Flds} {c : Nat} {last : ByteArray} {p : List UInt8 → Got PVal} {L : List UInt8} (h : Go2 G fs c (fieldsR p 0 last L)) : G = .ok (fs.map Prod.fst, fs.map Prod.snd) c := by
  have : G = .ok (fs.map Prod.fst ++ [], fs.map Prod.snd ++ []) (c + 0) := h
  simpa using this
theorem str_size {a b : Nat} {e : Int} {L : List UInt8} {s : ByteArray} {c : Nat} (h : strR a b e L = .ok s c) : s.size ≤ b := by
  unfold strR at h
  cases hN : numR 0 0 L with
  | bad e => rw [hN] at h; cases h
  | ok n k =>
    rw [hN] at h
    simp only at h
    split at h
    · cases h
    rename_i hn
    unfold txtR at h
    split at h
    · cases h
    rename_i s' k' hx
    split at hx
    · cases hx
    rename_i hl
    split at hx
    · cases hx
    injection hx with h1 h2
    injection h with h3 h4
    subst h3 h1
    show (List.toArray _).size ≤ b
    rw [List.size_toArray, List.length_take]
    omega

theorem and1 (n : Nat) : bits .and .u64 (n : Int) 1 = ((n % 2 : Nat) : Int) := by
  show IntKind.u64.wrap ((BitVec.ofInt 64 (n : Int) &&& BitVec.ofInt 64 1).toNat : Int) = _
  rw [BitVec.toNat_and, BitVec.ofInt_natCast, BitVec.toNat_ofNat, show (BitVec.ofInt 64 1).toNat = 1 from rfl, Nat.and_one_is_mod, IntKind.wrap_u64]
  omega
theorem xor_back0 (m : Nat) (h : m < 9223372036854775808) : bits .xor .i64 (m : Int) 0 = (m : Int) := by
  show IntKind.i64.wrap ((BitVec.ofInt 64 (m : Int) ^^^ BitVec.ofInt 64 0).toNat : Int) = _
  rw [BitVec.toNat_xor, BitVec.ofInt_natCast, BitVec.toNat_ofNat, show (BitVec.ofInt 64 0).toNat = 0 from rfl, Nat.xor_zero, IntKind.wrap_i64]
  omega
theorem xor_back1 (m : Nat) (h : m < 9223372036854775808) : bits .xor .i64 (m : Int) (-1) = -(m : Int) - 1 := by
  show IntKind.i64.wrap ((BitVec.ofInt 64 (m : Int) ^^^ BitVec.ofInt 64 (-1)).toNat : Int) = _
  rw [show BitVec.ofInt 64 (-1) = BitVec.allOnes 64 from rfl, BitVec.xor_allOnes, BitVec.toNat_not, BitVec.ofInt_natCast, BitVec.toNat_ofNat, IntKind.wrap_i64]
  omega
theorem xor_back {n : Nat} (h : n < 18446744073709551616) : bits .xor .i64 ((n / 2 : Nat) : Int) (-((n % 2 : Nat) : Int)) = unturn n := by
  unfold unturn
  rcases Nat.mod_two_eq_zero_or_one n with h0 | h0
  · rw [h0, if_neg (by omega)]
    exact xor_back0 _ (by omega)
  · rw [h0, if_pos rfl]
    exact xor_back1 _ (by omega)

set_option maxRecDepth 100000 in
set_option maxHeartbeats 8000000 in
/-- The walk up to what stands behind the labels. -/
theorem value_walk (d : Nat) {g : Nat} {bv : Value} {l : List UInt8} (q : Option (List UInt8 → Got PVal)) (hd : (q = none ∧ d = 8) ∨ (d < 8 ∧ ∃ f, q = some f ∧ ∀ (w : World) (p : Nat), At w g bv l p → Tb g w →
      Calls Tryd.prog 71 #[.pointer (some ⟨g, 0, none⟩), .int .i64 ((d + 1 : Nat) : Int)] w (Told (f (l.drop p)) (GiveV w.heap.size) w g bv l p)))
    {w : World} {p : Nat} (h : At w g bv l p) (hT : Tb g w) (R : Got PVal) (hR : R = headR q (l.drop p)) :
    Calls Tryd.prog 71 #[.pointer (some ⟨g, 0, none⟩), .int .i64 d] w (Told R (GiveV w.heap.size) w g bv l p) := by
  have h0 := hid h
  have hT0 := hid hT
  have hle := h.le
  have hlim := h.lim
  replace hR := hid hR
  have hbs := hid (fun (w : World) (p : Nat) (d : UInt8) (h : At w g bv l p) (hd : l[p]? = some d) => byte_some h hd)
  have hbn := hid (fun (w : World) (p : Nat) (h : At w g bv l p) (hd : p = l.length) => byte_none h hd)
  have hnu := hid (fun (w : World) (p : Nat) (h : At w g bv l p) => number_calls h)
  have hma := hid (fun (most : Nat) (c : Int) (hm : most ≤ 9223372036854775807) (w : World) (p : Nat) (h : At w g bv l p) => many_calls most c hm h)
  have htx := hid (fun (n : Nat) (hn : n ≤ 4096) (w : World) (p : Nat) (h : At w g bv l p) (hT : Tb g w) => rtext_calls n hn h hT)
  have hna := hid (fun (w : World) (p : Nat) (h : At w g bv l p) (hT : Tb g w) => rname_calls h hT)
  have hmy := hid must_yes
  have hmn := hid must_no
  go_enter Tryd.func71, Tryd.ntmps71
  go_wp2_with fail
  refine wp_scope_falls (ValJ g d bv l p w R) ?_ ?_
  · rintro n lab a' w' ⟨v, (⟨rfl, rfl, hJ⟩ | ⟨rfl, rfl, rfl, ⟨k, hdr, hk⟩, hvs⟩ | ⟨rfl, rfl, rfl, ⟨k, hdr, hk⟩, hvs⟩)⟩ low
    all_goals replace low := hid low
    · refine ⟨_, rfl, ?_⟩
      obtain ⟨⟨v, rfl⟩, V, c, cs, hRR, hrd, hvs⟩ := hJ
      simp only [valE]
      obtain ⟨kk, kn, ks, kl, kfn, kfv⟩ := V
      obtain ⟨la, lc, fa, fc, rfl, _⟩ := hrd.inv
      have c0 := hvs.cell (j := 0) rfl
      have c1 := hvs.cell (j := 1) rfl
      have c2 := hvs.cell (j := 2) rfl
      have c3 := hvs.cell (j := 3) rfl
      have c4 := hvs.cell (j := 4) rfl
      have f0 := hvs.free 0
      have f1 := hvs.free 1
      have f2 := hvs.free 2
      have f3 := hvs.free 3
      have f4 := hvs.free 4
      replace hRR := hid hRR
      replace hrd := hid hrd
      have hvs5 := hid (((((hvs.set 0 (.int .i64 kk)).set 1 (.int .i64 kn)).set 2 (.string ks)).set 3 (.slice la kl.length lc)).set 4 (.slice fa kfv.length fc))
      have hrd5 : Hid (Rd (set5 w' w.heap.size (.int .i64 kk) (.int .i64 kn) (.string ks) (.slice la kl.length lc) (.slice fa kfv.length fc)) (From w.heap.size (set5 w' w.heap.size (.int .i64 kk) (.int .i64 kn) (.string ks) (.slice la kl.length lc) (.slice fa kfv.length fc))) (.mk kk kn ks kl kfn kfv) [.int .i64 kk, .int .i64 kn, .string ks, .slice la kl.length lc, .slice fa kfv.length fc]) :=
        hrd.out.keep (fun b hb => ⟨by have := hb.1; omega, by rw [set5_size]; exact hb.2⟩) (fun b hb => set5_other _ _ _ _ _ _ _ (by have := hb.1; omega))
      unfold set5 at hrd5
      replace hvs := hid hvs
      go_wp2_with fail
      generalize ((((w'.setCell { block := w.heap.size, off := 0 } (Value.int IntKind.i64 kk)).setCell { block := w.heap.size, off := 1 } (Value.int IntKind.i64 kn)).setCell { block := w.heap.size, off := 2 } (.string ks)).setCell { block := w.heap.size, off := 3 } (.slice la kl.length lc)).setCell { block := w.heap.size, off := 4 } (.slice fa kfv.length fc) = w7 at *
      replace hvs5 : Hid (VS g bv l w (p + c) #[.int .i64 kk, .int .i64 kn, .string ks, .slice la kl.length lc, .slice fa kfv.length fc] w7) := hvs5
      clear c0 c1 c2 c3 c4
      have c0 := hvs5.out.cell (j := 0) rfl
      have c1 := hvs5.out.cell (j := 1) rfl
      have c2 := hvs5.out.cell (j := 2) rfl
      have c3 := hvs5.out.cell (j := 3) rfl
      have c4 := hvs5.out.cell (j := 4) rfl
      refine ⟨rfl, .agg #[.int .i64 kk, .int .i64 kn, .string ks, .slice la kl.length lc, .slice fa kfv.length fc], by simp [results, Tryd.results71, go_sem, c0, c1, c2, c3, c4], ?_⟩
      exact told_ok hRR.out hvs5.out.save ⟨_, rfl, hrd5.out⟩ rfl hvs5.out.at_
    · refine ⟨_, rfl, ?_⟩
      simp only [valF]
      have hRR := hR.out
      rw [hdr, head_5 hk] at hRR
      clear hdr hk
      rcases hd with ⟨rfl, rfl⟩ | ⟨hd8, f, rfl, ih⟩
      · simp only at hRR
        replace hRR := hid hRR
        replace hvs := hid hvs
        go_wp2_with fail
        refine (hmn.out _ _).mono ?_
        rintro e w5 ⟨rfl, rfl⟩
        go_wp2_with fail
        rw [jumps_panic]
        exact ⟨rfl, told_bad hRR.out hvs.out.save⟩
      simp only at hRR
      replace ih := hid ih
      have d1 : decide ((d : Int) < 8) = true := decide_eq_true (by omega)
      have d2 : decide (d < 8) = true := decide_eq_true hd8
      have e9 : IntKind.i64.wrap ((d : Int) + 1) = ((d + 1 : Nat) : Int) := by rw [IntWalk.i64_in _ (by omega)]; omega
      clear hd8
      have hm := hma.out 32 15 (by omega) _ _ hvs.at_
      replace hvs := hid hvs
      cases hN : manyR 32 15 (l.drop (p + 1)) with
      | bad x =>
        rw [hN] at hRR hm
        replace hRR := hid hRR
        replace hm := hid hm
        clear hN
        go_wp2_with fail
        refine (hmy.out _ _).mono ?_
        rintro e w5 ⟨rfl, rfl⟩
        go_wp2_with fail
        refine hm.out.mono ?_
        rintro e w3 ⟨h3, rfl⟩
        go_wp2_with fail
        rw [jumps_panic]
        exact ⟨rfl, told_bad hRR.out (hvs.out.save.trans h3)⟩
      | ok n j =>
      rw [hN] at hRR hm
      simp only at hRR
      clear hN
      replace hm := hid hm
      obtain ⟨G, hG⟩ : ∃ G, G = listR f n ((l.drop (p + 1)).drop j) := ⟨_, rfl⟩
      rw [← hG] at hRR
      replace hRR := hid hRR
      have hgo : Hid (Go1 G [] 0 (listR f n (l.drop (p + 1 + j)))) := by
        show Go1 _ _ _ _
        rw [← List.drop_drop, ← hG]; exact go1_start G
      clear hG
      obtain ⟨i0, hi, hz0, hz1, hz2⟩ := info_parts info52
      go_wp2_with fail
      refine (hmy.out _ _).mono ?_
      rintro e w5 ⟨rfl, rfl⟩
      go_wp2_with fail
      refine hm.out.mono ?_
      rintro e w3 ⟨h3, v3, rfl, ⟨rfl, hn32⟩, h4⟩
      have hv3 := hid (hvs.out.call h3 h4)
      have hB3 := hid hv3.out.lt
      go_wp2_with (at_make; refine wpList_make_own _ rfl _ _ 22 rfl (w.heap.size + 1) 25 i0 _ 5 Tryd.underlying22 hi hz0 hz1 .i64 .i64 _ n rfl rfl rfl (by rw [hz2]; omega) (by unfold maxLen; omega) hB3.out ?_; intro w4 hown4 hg4; have hv4 := hid (hv3.out.later (grown_below hg4)); have c3 : w4.cell? ⟨w.heap.size, 3, none⟩ = some (.slice none 0 0) := hv4.out.cell (j := 3) rfl; have fz := hv4.out.free 3)
      have hv5 := hid (hv4.out.set 3 (.slice (some ⟨w3.heap.size, 0, none⟩) 0 n))
      have ho5 := hid ((OwnG.empty (R := Rd) (B := w.heap.size + 1) hown4).box valRel ⟨w.heap.size, 3, none⟩ (.slice (some ⟨w3.heap.size, 0, none⟩) 0 n) (fun e => absurd (hown4.lt _ e).1 (by show ¬ (w.heap.size + 1 ≤ w.heap.size); omega)) (by show w.heap.size < w.heap.size + 1; omega))
      clear c3 fz hown4 hg4
      generalize w4.setCell ⟨w.heap.size, 3, none⟩ (.slice (some ⟨w3.heap.size, 0, none⟩) 0 n) = w5 at *
      replace hv5 : Hid (VS g bv l w (p + 1 + j) #[.int .i64 5, .int .i64 0, .string ⟨#[]⟩, .slice (some ⟨w3.heap.size, 0, none⟩) 0 n, .slice none 0 0] w5) := hv5
      replace hn32 := hid hn32
      go_loopg [61] n (fun gh i wr => ∃ (m c : Nat) (xs : List PVal) (vs : Value), gh + m = n ∧ xs.length = m ∧ i = .int .i64 m ∧ Hid (Go1 G xs c (listR f (n - m) (l.drop (p + 1 + j + c)))) ∧ Hid (VS g bv l w (p + 1 + j + c) #[.int .i64 5, .int .i64 0, .string ⟨#[]⟩, vs, .slice none 0 0] wr) ∧ Hid (OwnG Rd 5 (w.heap.size + 1) (w.heap.size + 1) 25 wr xs vs))
      case atStart => exact ⟨0, 0, [], _, by omega, rfl, rfl, hgo, hv5, ho5⟩
      case round =>
        obtain ⟨m, c, xs, vs, hmn2, hxl, rfl, hgo, hvr, hown⟩ := hrel
        clear hv5 ho5 hv4 hv3 hm h3 h4
        by_cases hlt : m < n
        · rw [show n - m = (n - (m + 1)) + 1 by omega] at hgo
          have hst := go1_step hgo.out
          have hc := ih.out wr.drew _ hvr.out.drew.at_ hvr.out.drew.tb
          have c3 : wr.cell? ⟨w.heap.size, 3, none⟩ = some vs := hvr.out.cell (j := 3) rfl
          cases hf : f (l.drop (p + 1 + j + c)) with
          | bad x =>
            rw [hf] at hst hc
            replace hRR : Hid (R = .bad x) := by show _ = _; rw [hRR.out, hst]
            replace hc := hid hc
            clear hf hgo hst
            go_upto_region 22 with fail
            refine wp_region_any (by kernel_rfl) ?_
            change wpAny _ _ _ _ _ _ _ (World.drew _)
            refine wpAny_take (i := 0) (v := ?_) rfl (by kernel_rfl) (by kernel_rfl) (by kernel_rfl) (by exact fun _ _ _ h => h) (Or.inl ⟨by rfl, ?_⟩) ?_
            rotate_left 1
            focus (intro w; go_simp; try with_reducible rfl)
            try simp only [Act.put, List.setIfInBounds_toArray]
            refine wpAny_take (i := 2) (v := ?_) rfl (by kernel_rfl) (by kernel_rfl) (by kernel_rfl) (by exact fun _ _ _ h => h) (Or.inl ⟨by rfl, ?_⟩) ?_
            rotate_left 1
            focus (intro w; go_simp; try with_reducible rfl)
            try simp only [Act.put]
            refine wpAny_take (i := 3) (v := ?_) rfl (by kernel_rfl) (by kernel_rfl) (by kernel_rfl) (by exact fun _ _ _ h => h) (Or.inl ⟨by rfl, ?_⟩) ?_
            rotate_left 1
            focus (intro w; go_simp; try with_reducible rfl)
            try simp only [Act.put]
            refine wpAny_take (i := 4) (v := ?_) rfl (by kernel_rfl) (by kernel_rfl) (by kernel_rfl) (by exact fun _ _ _ h => h) (Or.inl ⟨by rfl, ?_⟩) ?_
            rotate_left 1
            focus (intro w; go_simp; try with_reducible rfl)
            try simp only [Act.put]
            refine wpAny_ready (rs := [1, 5]) (by kernel_rfl) (by simp) ?_
            refine AllReady.cons rfl (fun K hK => ?_) (AllReady.cons rfl (fun K hK => ?_) AllReady.nil)
            · go_simp
              refine hK _ _ ?_
              clear hK K
              refine wpAny_ready (rs := [5]) (by kernel_rfl) (by simp) ?_
              refine AllReady.cons rfl (fun K hK => ?_) AllReady.nil
              go_simp
              refine hc.out.mono ?_
              rintro e w6 ⟨h6, rfl⟩
              go_wp2_with fail
              rw [jumps_panic]
              exact ⟨rfl, told_bad hRR.out (hvr.out.drew.save.trans h6)⟩
            · go_simp
              refine hc.out.mono ?_
              rintro e w6 ⟨h6, rfl⟩
              go_wp2_with fail
              rw [jumps_panic]
              exact ⟨rfl, told_bad hRR.out (hvr.out.drew.save.trans h6)⟩
          | ok x k =>
            rw [hf] at hst hc
            replace hst := hid hst
            replace hc := hid hc
            clear hf hgo
            obtain ⟨xk, xn, xt, xl, xfn, xfv⟩ := x
            go_upto_region 22 with fail
            go_region_law (first
                | (go_simp; go_at_call 71
                   refine hc.out.mono ?_
                   rintro e w6 ⟨h6, v6, rfl, ⟨cs6, rfl, hr6⟩, h7⟩
                   obtain ⟨ya, yc, za, zc, rfl, _⟩ := hr6.inv
                   have hv6 := hid (hvr.out.drew.call h6 h7)
                   have hv7 := hid (hv6.out.later (below_new w6 (.cells #[.int .i64 xk, .int .i64 xn, .string xt, .slice ya xl.length yc, .slice za xfv.length zc] 25)))
                   have hown6 := hid (own_call valRel (hown.out.later valRel (Below.refl _ _).drew) hvr.out.drew h6 (.cells #[.int .i64 xk, .int .i64 xn, .string xt, .slice ya xl.length yc, .slice za xfv.length zc] 25))
                   have hX6 := hid (rd_apart hr6 (hown.out.later valRel (Below.refl _ _).drew) hvr.out.lt (.cells #[.int .i64 xk, .int .i64 xn, .string xt, .slice ya xl.length yc, .slice za xfv.length zc] 25))
                   have hB6 := hid hv7.out.lt
                   have c3 : w6.cell? ⟨w.heap.size, 3, none⟩ = some vs := hv6.out.cell (j := 3) rfl
                   have c3a : (w6.alloc (.cells #[.int .i64 xk, .int .i64 xn, .string xt, .slice ya xl.length yc, .slice za xfv.length zc] 25)).cell? ⟨w.heap.size, 3, none⟩ = some vs := hv7.out.cell (j := 3) rfl)
                | (refine step_append_g valRel _ rfl _ _ 22 rfl (w.heap.size + 1) (w.heap.size + 1) 25 80 i0 _ Tryd.underlying22 hi hz0 hz1 hz2 rfl (by decide) xs vs rfl hown6.out ⟨w6.heap.size, 0, none⟩ 1 [.int .i64 xk, .int .i64 xn, .string xt, .slice ya xl.length yc, .slice za xfv.length zc] (.mk xk xn xt xl xfn xfv) rfl (cells_new _ _ rfl _ _) hX6.out (by have := hn32.out; omega) (by have := hn32.out; unfold maxLen; omega) hB6.out ?_
                   intro v8 w8 hown8 hg8 hlow8 hst8
                   obtain ⟨a8, m8, n8, rfl⟩ := own_slice hown8
                   have hv8 := hid (hv7.out.grow (grown_from hown6.out hg8 hB6.out))
                   have c3 : w8.cell? ⟨w.heap.size, 3, none⟩ = some vs := hv8.out.cell (j := 3) rfl
                   have fz := hv8.out.free 3))
            all_goals (have hv9 := hid (hv8.out.set 3 (.slice a8 m8 n8))
                       have ho9 := hid (hown8.box valRel ⟨w.heap.size, 3, none⟩ (.slice a8 m8 n8) (fun e => absurd (hown8.lt _ e).1 (by show ¬ (w.heap.size + 1 ≤ w.heap.size); omega)) (by show w.heap.size < w.heap.size + 1; omega))
                       generalize w8.setCell ⟨w.heap.size, 3, none⟩ (.slice a8 m8 n8) = w9 at *
                       replace hv9 : Hid (VS g bv l w (p + 1 + j + c + k) #[.int .i64 5, .int .i64 0, .string ⟨#[]⟩, .slice a8 m8 n8, .slice none 0 0] w9) := hv9
                       have e7 : IntKind.i64.wrap ((m : Int) + 1) = ((m + 1 : Nat) : Int) := by have := hn32.out; rw [IntWalk.i64_in _ (by omega)]; omega
                       go_wp2_with fail
                       go_roundg (n - (m + 1))
                       case measure => omega
                       case rel => exact ⟨m + 1, c + k, _, .slice a8 m8 n8, by omega, by simp [hxl], by have := hn32.out; go_num, by rw [← Nat.add_assoc, ← List.drop_drop]; exact hst, by rw [← Nat.add_assoc]; exact hv9, ho9⟩)
        · obtain rfl : m = n := by omega
          rw [Nat.sub_self] at hgo
          have hG := go1_end hgo.out
          replace hRR : Hid (R = .ok (.mk 5 0 ByteArray.empty xs [] []) (1 + j + c)) := by show _ = _; rw [hRR.out, hG]
          clear hgo
          go_wp2_with fail
          go_step3
          exact ⟨0, by omega, fun _ => undef, .inl ⟨rfl, rfl, valE_mk _ rfl, _, _, _, hRR.out, rd_mk ⟨by decide, by decide⟩ ⟨by decide, by decide⟩ (by decide) (hown.out.readL (fun b hb => hown.out.lt b hb) (fun b hb => ⟨hb.1, hb.2.1⟩) (by have := hn32.out; omega)) rdF_nil, by rw [show p + (1 + j + c) = p + 1 + j + c by omega]; exact hvr.out⟩⟩
    · refine ⟨_, rfl, ?_⟩
      simp only [valF]
      have hRR := hR.out
      rw [hdr, head_6 hk] at hRR
      clear hdr hk
      rcases hd with ⟨rfl, rfl⟩ | ⟨hd8, f, rfl, ih⟩
      · simp only at hRR
        replace hRR := hid hRR
        replace hvs := hid hvs
        go_wp2_with fail
        refine (hmn.out _ _).mono ?_
        rintro e w5 ⟨rfl, rfl⟩
        go_wp2_with fail
        rw [jumps_panic]
        exact ⟨rfl, told_bad hRR.out hvs.out.save⟩
      simp only at hRR
      replace ih := hid ih
      have d1 : decide ((d : Int) < 8) = true := decide_eq_true (by omega)
      have d2 : decide (d < 8) = true := decide_eq_true hd8
      have e9 : IntKind.i64.wrap ((d : Int) + 1) = ((d + 1 : Nat) : Int) := by rw [IntWalk.i64_in _ (by omega)]; omega
      clear hd8
      have hm := hma.out 32 15 (by omega) _ _ hvs.at_
      replace hvs := hid hvs
      cases hN : manyR 32 15 (l.drop (p + 1)) with
      | bad x =>
        rw [hN] at hRR hm
        replace hRR := hid hRR
        replace hm := hid hm
        clear hN
        go_wp2_with fail
        refine (hmy.out _ _).mono ?_
        rintro e w5 ⟨rfl, rfl⟩
        go_wp2_with fail
        refine hm.out.mono ?_
        rintro e w3 ⟨h3, rfl⟩
        go_wp2_with fail
        rw [jumps_panic]
        exact ⟨rfl, told_bad hRR.out (hvs.out.save.trans h3)⟩
      | ok n j =>
      rw [hN] at hRR hm
      simp only at hRR
      clear hN
      replace hm := hid hm
      obtain ⟨G, hG⟩ : ∃ G, G = fieldsR f n ByteArray.empty ((l.drop (p + 1)).drop j) := ⟨_, rfl⟩
      rw [← hG] at hRR
      replace hRR := hid hRR
      have hgo : Hid (Go2 G [] 0 (fieldsR f n ByteArray.empty (l.drop (p + 1 + j)))) := by
        show Go2 _ _ _ _
        rw [← List.drop_drop, ← hG]; exact go2_start G
      clear hG
      obtain ⟨i0, hi, hz0, hz1, hz2⟩ := info_parts info_fld
      go_wp2_with fail
      refine (hmy.out _ _).mono ?_
      rintro e w5 ⟨rfl, rfl⟩
      go_wp2_with fail
      refine hm.out.mono ?_
      rintro e w3 ⟨h3, v3, rfl, ⟨rfl, hn32⟩, h4⟩
      have hv3 := hid (hvs.out.call h3 h4)
      have hB3 := hid hv3.out.lt
      go_wp2_with (at_make; refine wpList_make_own _ rfl _ _ 23 rfl (w.heap.size + 1) 50 i0 _ 6 Tryd.underlying23 hi hz0 hz1 .i64 .i64 _ n rfl rfl rfl (by rw [hz2]; omega) (by unfold maxLen; omega) hB3.out ?_; intro w4 hown4 hg4; have hv4 := hid (hv3.out.later (grown_below hg4)); have c3 : w4.cell? ⟨w.heap.size, 4, none⟩ = some (.slice none 0 0) := hv4.out.cell (j := 4) rfl; have fz := hv4.out.free 4)
      have hv5 := hid (hv4.out.set 4 (.slice (some ⟨w3.heap.size, 0, none⟩) 0 n))
      have ho5 := hid ((OwnG.empty (R := RdFl) (B := w.heap.size + 1) hown4).box fldRel ⟨w.heap.size, 4, none⟩ (.slice (some ⟨w3.heap.size, 0, none⟩) 0 n) (fun e => absurd (hown4.lt _ e).1 (by show ¬ (w.heap.size + 1 ≤ w.heap.size); omega)) (by show w.heap.size < w.heap.size + 1; omega))
      clear c3 fz hown4 hg4
      generalize w4.setCell ⟨w.heap.size, 4, none⟩ (.slice (some ⟨w3.heap.size, 0, none⟩) 0 n) = w5 at *
      replace hv5 : Hid (VS g bv l w (p + 1 + j) #[.int .i64 6, .int .i64 0, .string ⟨#[]⟩, .slice none 0 0, .slice (some ⟨w3.heap.size, 0, none⟩) 0 n] w5) := hv5
      replace hn32 := hid hn32
      go_loopg [6, 7, 82] n (fun gh s6 s7 i wr => ∃ (m c : Nat) (fs : Flds) (vs : Value) (last : ByteArray), gh + m = n ∧ fs.length = m ∧ i = .int .i64 m ∧ s6 = .string last ∧ Hid (Go2 G fs c (fieldsR f (n - m) last (l.drop (p + 1 + j + c)))) ∧ Hid (VS g bv l w (p + 1 + j + c) #[.int .i64 6, .int .i64 0, .string ⟨#[]⟩, .slice none 0 0, vs] wr) ∧ Hid (OwnG RdFl 6 (w.heap.size + 1) (w.heap.size + 1) 50 wr fs vs))
      case atStart => exact ⟨0, 0, [], _, ByteArray.empty, by omega, rfl, rfl, rfl, hgo, hv5, ho5⟩
      case round =>
        obtain ⟨m, c, fs, vs, last, hmn2, hxl, rfl, rfl, hgo, hvr, hown⟩ := hrel
        clear hv5 ho5 hv4 hv3 hm h3 h4
        by_cases hlt : m < n
        · rw [show n - m = (n - (m + 1)) + 1 by omega] at hgo
          have hst := go2_step hgo.out
          have hnm := hna.out wr _ hvr.out.at_ hvr.out.tb
          cases hS : strR 1 24 15 (l.drop (p + 1 + j + c)) with
          | bad x =>
            rw [hS] at hst hnm
            replace hRR : Hid (R = .bad x) := by show _ = _; rw [hRR.out, hst]
            replace hnm := hid hnm
            clear hS hgo hst
            go_wp2_with fail
            refine hnm.out.mono ?_
            rintro e w6 ⟨h6, rfl⟩
            go_wp2_with fail
            rw [jumps_panic]
            exact ⟨rfl, told_bad hRR.out (hvr.out.save.trans h6)⟩
          | ok nm k =>
          have hns := hid (str_size hS)
          rw [hS] at hst hnm
          simp only at hst
          replace hnm := hid hnm
          clear hS hgo
          by_cases hbl : blt last nm = false
          · rw [if_pos hbl] at hst
            replace hRR : Hid (R = .bad 4) := by show _ = _; rw [hRR.out, hst]
            unfold blt at hbl
            rw [← less_tri] at hbl
            replace hbl := hid hbl
            clear hst
            go_wp2_with fail
            refine hnm.out.mono ?_
            rintro e w6 ⟨h6, v6, rfl, rfl, h7⟩
            go_wp2_with fail
            rw [hbl.out]
            refine (hmn.out _ _).mono ?_
            rintro e w7 ⟨rfl, rfl⟩
            go_wp2_with fail
            rw [jumps_panic]
            exact ⟨rfl, told_bad hRR.out (hvr.out.save.trans h6)⟩
          rw [if_neg hbl] at hst
          have hbt : Hid ((!Op.bytesLess nm.toList last.toList && !nm.toList == last.toList) = true) := by
            show _ = true
            rw [less_tri]
            unfold blt at hbl
            simpa using hbl
          clear hbl
          cases hf : f ((l.drop (p + 1 + j + c)).drop k) with
          | bad x =>
            rw [hf] at hst
            replace hRR : Hid (R = .bad x) := by show _ = _; rw [hRR.out, hst]
            clear hst
            go_wp2_with fail
            refine hnm.out.mono ?_
            rintro e w6 ⟨h6, v6, rfl, rfl, h7⟩
            have hv6 := hid (hvr.out.call h6 h7)
            have hc := ih.out w6.drew _ hv6.out.drew.at_ hv6.out.drew.tb
            rw [← List.drop_drop, hf] at hc
            replace hc := hid hc
            have c4 : w6.cell? ⟨w.heap.size, 4, none⟩ = some vs := hv6.out.cell (j := 4) rfl
            clear hf
            go_wp2_with fail
            rw [hbt.out]
            refine (hmy.out _ _).mono ?_
            rintro e w7 ⟨rfl, rfl⟩
            go_upto_region 32 with fail
            refine wp_region_any (by kernel_rfl) ?_
            change wpAny _ _ _ _ _ _ _ (World.drew _)
            refine wpAny_take (i := 0) (v := ?_) rfl (by kernel_rfl) (by kernel_rfl) (by kernel_rfl) (by exact fun _ _ _ h => h) (Or.inl ⟨by rfl, ?_⟩) ?_
            rotate_left 1
            focus (intro w; go_simp; try with_reducible rfl)
            try simp only [Act.put, List.setIfInBounds_toArray]
            refine wpAny_take (i := 2) (v := ?_) rfl (by kernel_rfl) (by kernel_rfl) (by kernel_rfl) (by exact fun _ _ _ h => h) (Or.inl ⟨by rfl, ?_⟩) ?_
            rotate_left 1
            focus (intro w; go_simp; try with_reducible rfl)
            try simp only [Act.put]
            refine wpAny_take (i := 3) (v := ?_) rfl (by kernel_rfl) (by kernel_rfl) (by kernel_rfl) (by exact fun _ _ _ h => h) (Or.inl ⟨by rfl, ?_⟩) ?_
            rotate_left 1
            focus (intro w; go_simp; try with_reducible rfl)
            try simp only [Act.put]
            refine wpAny_take (i := 4) (v := ?_) rfl (by kernel_rfl) (by kernel_rfl) (by kernel_rfl) (by exact fun _ _ _ h => h) (Or.inl ⟨by rfl, ?_⟩) ?_
            rotate_left 1
            focus (intro w; go_simp; try with_reducible rfl)
            try simp only [Act.put]
            refine wpAny_take (i := 5) (v := ?_) rfl (by kernel_rfl) (by kernel_rfl) (by kernel_rfl) (by exact fun _ _ _ h => h) (Or.inl ⟨by rfl, ?_⟩) ?_
            rotate_left 1
            focus (intro w; go_simp; try with_reducible rfl)
            try simp only [Act.put]
            refine wpAny_ready (rs := [1, 6]) (by kernel_rfl) (by simp) ?_
            refine AllReady.cons rfl (fun K hK => ?_) (AllReady.cons rfl (fun K hK => ?_) AllReady.nil)
            · go_simp
              refine hK _ _ ?_
              clear hK K
              refine wpAny_ready (rs := [6]) (by kernel_rfl) (by simp) ?_
              refine AllReady.cons rfl (fun K hK => ?_) AllReady.nil
              go_simp
              refine hc.out.mono ?_
              rintro e w6 ⟨h6, rfl⟩
              go_wp2_with fail
              rw [jumps_panic]
              exact ⟨rfl, told_bad hRR.out (hv6.out.drew.save.trans h6)⟩
            · go_simp
              refine hc.out.mono ?_
              rintro e w6 ⟨h6, rfl⟩
              go_wp2_with fail
              rw [jumps_panic]
              exact ⟨rfl, told_bad hRR.out (hv6.out.drew.save.trans h6)⟩
          | ok x i =>
            rw [hf] at hst
            replace hst := hid hst
            obtain ⟨xk, xn, xt, xl, xfn, xfv⟩ := x
            go_wp2_with fail
            refine hnm.out.mono ?_
            rintro e wn ⟨h6, v6, rfl, rfl, h7⟩
            have hvn := hid (hvr.out.call h6 h7)
            have hownn := hid (own_keep fldRel hown.out hvr.out h6)
            have hc := ih.out wn.drew _ hvn.out.drew.at_ hvn.out.drew.tb
            rw [← List.drop_drop, hf] at hc
            replace hc := hid hc
            have c4 : wn.cell? ⟨w.heap.size, 4, none⟩ = some vs := hvn.out.cell (j := 4) rfl
            clear hf h6 h7
            go_wp2_with fail
            rw [hbt.out]
            refine (hmy.out _ _).mono ?_
            rintro e w7 ⟨rfl, rfl⟩
            go_upto_region 32 with fail
            go_region_law (first
                | (go_simp; go_at_call 71
                   refine hc.out.mono ?_
                   rintro e w6 ⟨h6, v6, rfl, ⟨cs6, rfl, hr6⟩, h7⟩
                   obtain ⟨ya, yc, za, zc, rfl, _⟩ := hr6.inv
                   have hv6 := hid (hvn.out.drew.call h6 h7)
                   have hv7 := hid (hv6.out.later (below_new w6 (.cells #[.string nm, .int .i64 xk, .int .i64 xn, .string xt, .slice ya xl.length yc, .slice za xfv.length zc] 50)))
                   have hown6 := hid (own_call fldRel (hownn.out.later fldRel (Below.refl _ _).drew) hvn.out.drew h6 (.cells #[.string nm, .int .i64 xk, .int .i64 xn, .string xt, .slice ya xl.length yc, .slice za xfv.length zc] 50))
                   have hX6 := hid (show RdFl _ _ (nm, PVal.mk xk xn xt xl xfn xfv) [.string nm, .int .i64 xk, .int .i64 xn, .string xt, .slice ya xl.length yc, .slice za xfv.length zc] from ⟨_, rfl, by show nm.size ≤ _; have := hns.out; omega, rd_apart hr6 (hownn.out.later fldRel (Below.refl _ _).drew) hvn.out.lt (.cells #[.string nm, .int .i64 xk, .int .i64 xn, .string xt, .slice ya xl.length yc, .slice za xfv.length zc] 50)⟩)
                   have hB6 := hid hv7.out.lt
                   have c4 : w6.cell? ⟨w.heap.size, 4, none⟩ = some vs := hv6.out.cell (j := 4) rfl
                   have c4a : (w6.alloc (.cells #[.string nm, .int .i64 xk, .int .i64 xn, .string xt, .slice ya xl.length yc, .slice za xfv.length zc] 50)).cell? ⟨w.heap.size, 4, none⟩ = some vs := hv7.out.cell (j := 4) rfl)
                | (refine step_append_g fldRel _ rfl _ _ 23 rfl (w.heap.size + 1) (w.heap.size + 1) 50 96 i0 _ Tryd.underlying23 hi hz0 hz1 hz2 rfl (by decide) fs vs rfl hown6.out ⟨w6.heap.size, 0, none⟩ 1 [.string nm, .int .i64 xk, .int .i64 xn, .string xt, .slice ya xl.length yc, .slice za xfv.length zc] (nm, .mk xk xn xt xl xfn xfv) rfl (cells_new _ _ rfl _ _) hX6.out (by have := hn32.out; omega) (by have := hn32.out; unfold maxLen; omega) hB6.out ?_
                   intro v8 w8 hown8 hg8 hlow8 hst8
                   obtain ⟨a8, m8, n8, rfl⟩ := own_slice hown8
                   have hv8 := hid (hv7.out.grow (grown_from hown6.out hg8 hB6.out))
                   have c4 : w8.cell? ⟨w.heap.size, 4, none⟩ = some vs := hv8.out.cell (j := 4) rfl
                   have fz := hv8.out.free 4))
            all_goals (have hv9 := hid (hv8.out.set 4 (.slice a8 m8 n8))
                       have ho9 := hid (hown8.box fldRel ⟨w.heap.size, 4, none⟩ (.slice a8 m8 n8) (fun e => absurd (hown8.lt _ e).1 (by show ¬ (w.heap.size + 1 ≤ w.heap.size); omega)) (by show w.heap.size < w.heap.size + 1; omega))
                       generalize w8.setCell ⟨w.heap.size, 4, none⟩ (.slice a8 m8 n8) = w9 at *
                       replace hv9 : Hid (VS g bv l w (p + 1 + j + c + k + i) #[.int .i64 6, .int .i64 0, .string ⟨#[]⟩, .slice none 0 0, .slice a8 m8 n8] w9) := hv9
                       have e7 : IntKind.i64.wrap ((m : Int) + 1) = ((m + 1 : Nat) : Int) := by have := hn32.out; rw [IntWalk.i64_in _ (by omega)]; omega
                       go_wp2_with fail
                       go_roundg (n - (m + 1))
                       case measure => omega
                       case rel => exact ⟨m + 1, c + k + i, _, .slice a8 m8 n8, nm, by omega, by simp [hxl], by have := hn32.out; go_num, rfl, by rw [show p + 1 + j + (c + k + i) = p + 1 + j + c + (k + i) by omega, ← List.drop_drop]; exact hst, by rw [show p + 1 + j + (c + k + i) = p + 1 + j + c + k + i by omega]; exact hv9, ho9⟩)
        · obtain rfl : m = n := by omega
          rw [Nat.sub_self] at hgo
          have hG := go2_end hgo.out
          replace hRR : Hid (R = .ok (.mk 6 0 ByteArray.empty [] (fs.map Prod.fst) (fs.map Prod.snd)) (1 + j + c)) := by show _ = _; rw [hRR.out, hG]
          clear hgo
          go_wp2_with fail
          go_step3
          rename_i K hK
          refine hK _ _ (pass_use rfl (low.out 0 0 _ _ (by omega) ⟨fun _ => undef, .inl ⟨rfl, rfl, valE_mk _ rfl, _, _, _, hRR.out, rd_mk ⟨by decide, by decide⟩ ⟨by decide, by decide⟩ (by decide) rdL_nil (hown.out.readF (fun b hb => hown.out.lt b hb) (fun b hb => ⟨hb.1, hb.2.1⟩) (by have := hn32.out; omega)), by rw [show p + (1 + j + c) = p + 1 + j + c by omega]; exact hvr.out⟩⟩))
  · intro pass
    replace pass := hid pass
    have hv0 := hid (vs_new h0.out hT0.out #[.int .i64 0, .int .i64 0, .string ⟨#[]⟩, .slice none 0 0, .slice none 0 0])
    by_cases hend : p = l.length
    · have hRR : Hid (R = .bad 17) := by
        show _ = _
        rw [hR.out, List.drop_eq_nil_of_le (by omega)]; rfl
      go_wp2_with fail
      refine (hbn.out _ _ hv0.out.at_ hend).mono ?_
      rintro e w1 ⟨rfl, h1⟩
      go_wp2_with fail
      rw [jumps_panic]
      exact ⟨rfl, told_bad hRR.out (hv0.out.save.trans h1)⟩
    have hlt : p < l.length := by omega
    obtain ⟨k, hk⟩ : ∃ d, l[p]? = some d := ⟨_, List.getElem?_eq_getElem hlt⟩
    have hdr : Hid (l.drop p = k :: l.drop (p + 1)) := by
      show _ = _
      rw [List.drop_eq_getElem_cons hlt, (List.getElem?_eq_some_iff.1 hk).2]
    rw [hdr.out] at hR
    have hk8 := k.toNat_lt
    have hb := hid (hbs.out _ _ _ hv0.out.at_ hk)
    obtain ⟨c, hc⟩ : ∃ c, c = k.toNat := ⟨_, rfl⟩
    rw [← hc] at hb hk8
    have hkc := hid hc.symm
    clear hc
    have e0 : IntKind.i64.wrap (c : Int) = c := IntWalk.i64_in _ (by omega)
    clear hend
    go_wp2_with fail
    refine hb.out.mono ?_
    rintro e w1 ⟨rfl, h1, h2⟩
    have hv1 := hid (hv0.out.call h1 h2)
    have c0 : w1.cell? ⟨w.heap.size, 0, none⟩ = some (.int .i64 0) := hv1.out.cell (j := 0) rfl
    have fz := hv1.out.free 0
    go_upto_region 4 with fail
    have hv2 := hid (hv1.out.set 0 (.int .i64 c))
    clear c0 fz
    generalize w1.setCell ⟨w.heap.size, 0, none⟩ (.int .i64 (c : Int)) = w2 at *
    replace hv2 : Hid (VS g bv l w (p + 1) #[.int .i64 (c : Int), .int .i64 0, .string ⟨#[]⟩, .slice none 0 0, .slice none 0 0] w2) := hv2
    have c0 : w2.cell? ⟨w.heap.size, 0, none⟩ = some (.int .i64 (c : Int)) := hv2.out.cell (j := 0) rfl
    by_cases k1 : c = 1
    · subst k1
      have hRR := hid (hR.out.trans (head_1 hkc.out))
      go_wp2_with fail
      go_step3
      exact ⟨0, fun _ => undef, .inl ⟨rfl, rfl, valE_mk _ rfl, _, _, _, hRR.out, rd_atom ⟨by decide, by decide⟩ ⟨by decide, by decide⟩ (by decide), hv2.out⟩⟩
    have n1 : decide ((c : Int) = 1) = false := decide_eq_false (by omega)
    by_cases k2 : c = 2
    · subst k2
      have hRR := hR.out.trans (head_2 hkc.out)
      clear n1 k1
      by_cases hend : p + 1 = l.length
      · rw [List.drop_eq_nil_of_le (by omega)] at hRR
        replace hRR := hid hRR
        go_wp2_with fail
        refine (hbn.out _ _ hv2.out.at_ hend).mono ?_
        rintro e w3 ⟨rfl, h3⟩
        go_wp2_with fail
        rw [jumps_panic]
        exact ⟨rfl, told_bad hRR.out (hv2.out.save.trans h3)⟩
      have hlt : p + 1 < l.length := by omega
      obtain ⟨y, hy⟩ : ∃ d, l[p + 1]? = some d := ⟨_, List.getElem?_eq_getElem hlt⟩
      rw [show l.drop (p + 1) = y :: l.drop (p + 2) by rw [List.drop_eq_getElem_cons hlt, (List.getElem?_eq_some_iff.1 hy).2]] at hRR
      simp only at hRR
      have hb2 := hid (hbs.out _ _ _ hv2.out.at_ hy)
      have hy8 := y.toNat_lt
      generalize y.toNat = z at *
      have e1 : IntKind.i64.wrap (z : Int) = z := IntWalk.i64_in _ (by omega)
      clear hend hlt
      go_wp2_with fail
      refine hb2.out.mono ?_
      rintro e w3 ⟨rfl, h3, h4⟩
      clear c0
      have hv3 := hid (hv2.out.call h3 h4)
      have c1 : w3.cell? ⟨w.heap.size, 1, none⟩ = some (.int .i64 0) := hv3.out.cell (j := 1) rfl
      have fz := hv3.out.free 1
      go_upto_region 8 with fail
      have hv4 := hid (hv3.out.set 1 (.int .i64 z))
      clear c1 fz
      generalize w3.setCell ⟨w.heap.size, 1, none⟩ (.int .i64 (z : Int)) = w4 at *
      replace hv4 : Hid (VS g bv l w (p + 2) #[.int .i64 2, .int .i64 z, .string ⟨#[]⟩, .slice none 0 0, .slice none 0 0] w4) := hv4
      have c1 : w4.cell? ⟨w.heap.size, 1, none⟩ = some (.int .i64 (z : Int)) := hv4.out.cell (j := 1) rfl
      by_cases hz : 1 < z
      · rw [if_pos hz] at hRR
        replace hRR := hid hRR
        have d1 : decide ((z : Int) ≤ 1) = false := decide_eq_false (by omega)
        have d2 : decide (z ≤ 1) = false := decide_eq_false (by omega)
        clear hz
        go_wp2_with fail
        refine (hmn.out _ _).mono ?_
        rintro e w5 ⟨rfl, rfl⟩
        go_wp2_with fail
        rw [jumps_panic]
        exact ⟨rfl, told_bad hRR.out hv4.out.save⟩
      · rw [if_neg hz] at hRR
        replace hRR := hid hRR
        have d1 : decide ((z : Int) ≤ 1) = true := decide_eq_true (by omega)
        have d2 : decide (z ≤ 1) = true := decide_eq_true (by omega)
        have hzz : Hid (I64 (z : Int)) := by show I64 _; unfold I64; omega
        clear hz
        go_wp2_with fail
        refine (hmy.out _ _).mono ?_
        rintro e w5 ⟨rfl, rfl⟩
        go_wp2_with fail
        go_step3
        exact ⟨0, fun _ => undef, .inl ⟨rfl, rfl, valE_mk _ rfl, _, _, _, hRR.out, rd_atom ⟨by decide, by decide⟩ hzz.out (by decide), hv4.out⟩⟩
    have n2 : decide ((c : Int) = 2) = false := decide_eq_false (by omega)
    by_cases k3 : c = 3
    · subst k3
      have hRR := hR.out.trans (head_3 hkc.out)
      clear n1 k1 n2 k2
      have hn := hnu.out _ _ hv2.out.at_
      cases hN : numR 0 0 (l.drop (p + 1)) with
      | bad x =>
        rw [hN] at hRR hn
        replace hRR := hid hRR
        replace hn := hid hn
        clear hN
        go_wp2_with fail
        refine hn.out.mono ?_
        rintro e w3 ⟨h3, rfl⟩
        go_wp2_with fail
        rw [jumps_panic]
        exact ⟨rfl, told_bad hRR.out (hv2.out.save.trans h3)⟩
      | ok n j =>
        rw [hN] at hRR hn
        simp only at hRR
        replace hRR := hid hRR
        replace hn := hid hn
        have hlt := (num_inv hN).1
        clear hN
        have hI := hid (unturn_in hlt)
        have hX : bits .xor .i64 ((n : Int) / 2) (-((n : Int) % 2)) = unturn n := xor_back hlt
        have a1 : bits .and .u64 (n : Int) 1 = (n : Int) % 2 := and1 n
        have e1 : IntKind.i64.wrap ((n : Int) / 2) = (n : Int) / 2 := IntWalk.i64_in _ (by omega)
        have e2 : IntKind.i64.wrap ((n : Int) % 2) = (n : Int) % 2 := IntWalk.i64_in _ (by omega)
        have e3 : IntKind.i64.wrap (-((n : Int) % 2)) = -((n : Int) % 2) := IntWalk.i64_in _ (by omega)
        generalize unturn n = u at *
        go_wp2_with fail
        refine hn.out.mono ?_
        rintro e w3 ⟨h3, v3, rfl, rfl, h4⟩
        clear c0
        have hv3 := hid (hv2.out.call h3 h4)
        have c1 : w3.cell? ⟨w.heap.size, 1, none⟩ = some (.int .i64 0) := hv3.out.cell (j := 1) rfl
        have fz := hv3.out.free 1
        go_wp2_with fail
        have hv4 := hid (hv3.out.set 1 (.int .i64 u))
        clear c1 fz
        generalize w3.setCell ⟨w.heap.size, 1, none⟩ (.int .i64 u) = w4 at *
        replace hv4 : Hid (VS g bv l w (p + 1 + j) #[.int .i64 3, .int .i64 u, .string ⟨#[]⟩, .slice none 0 0, .slice none 0 0] w4) := hv4
        go_step3
        exact ⟨0, fun _ => undef, .inl ⟨rfl, rfl, valE_mk _ rfl, _, _, _, hRR.out, rd_atom ⟨by decide, by decide⟩ hI.out (by decide), by rw [← Nat.add_assoc]; exact hv4.out⟩⟩
    have n3 : decide ((c : Int) = 3) = false := decide_eq_false (by omega)
    by_cases k4 : c = 4
    · subst k4
      have hRR := hR.out.trans (head_4 hkc.out)
      clear n1 k1 n2 k2 n3 k3
      have hm := hma.out 2048 2 (by omega) _ _ hv2.out.at_
      cases hN : manyR 2048 2 (l.drop (p + 1)) with
      | bad x =>
        rw [hN] at hRR hm
        replace hRR := hid hRR
        replace hm := hid hm
        clear hN
        go_wp2_with fail
        refine hm.out.mono ?_
        rintro e w3 ⟨h3, rfl⟩
        go_wp2_with fail
        rw [jumps_panic]
        exact ⟨rfl, told_bad hRR.out (hv2.out.save.trans h3)⟩
      | ok n j =>
        rw [hN] at hRR hm
        simp only [List.drop_drop] at hRR
        clear hN
        replace hm := hid hm
        cases hX : txtR n (l.drop (p + 1 + j)) with
        | bad x =>
          rw [hX] at hRR
          replace hRR := hid hRR
          go_wp2_with fail
          refine hm.out.mono ?_
          rintro e w3 ⟨h3, v3, rfl, ⟨rfl, hn8⟩, h4⟩
          have hv3 := hid (hv2.out.call h3 h4)
          have ht := htx.out n (by omega) _ _ hv3.out.at_ hv3.out.tb
          rw [hX] at ht
          replace ht := hid ht
          clear hX
          go_wp2_with fail
          refine ht.out.mono ?_
          rintro e w4 ⟨h5, rfl⟩
          go_wp2_with fail
          rw [jumps_panic]
          exact ⟨rfl, told_bad hRR.out (hv3.out.save.trans h5)⟩
        | ok t i =>
          rw [hX] at hRR
          simp only at hRR
          replace hRR := hid hRR
          go_wp2_with fail
          refine hm.out.mono ?_
          rintro e w3 ⟨h3, v3, rfl, ⟨rfl, hn8⟩, h4⟩
          have hv3 := hid (hv2.out.call h3 h4)
          have ht := htx.out n (by omega) _ _ hv3.out.at_ hv3.out.tb
          rw [hX] at ht
          replace ht := hid ht
          have hsz := hid (txt_size hX)
          clear hX
          go_wp2_with fail
          refine ht.out.mono ?_
          rintro e w4 ⟨h5, v5, rfl, rfl, h6⟩
          have hv4 := hid (hv3.out.call h5 h6)
          clear c0
          have c2 : w4.cell? ⟨w.heap.size, 2, none⟩ = some (.string ⟨#[]⟩) := hv4.out.cell (j := 2) rfl
          have fz := hv4.out.free 2
          go_wp2_with fail
          have hv5 := hid (hv4.out.set 2 (.string t))
          clear c2 fz
          generalize w4.setCell ⟨w.heap.size, 2, none⟩ (.string t) = w5 at *
          replace hv5 : Hid (VS g bv l w (p + 1 + j + i) #[.int .i64 4, .int .i64 0, .string t, .slice none 0 0, .slice none 0 0] w5) := hv5
          go_step3
          exact ⟨0, fun _ => undef, .inl ⟨rfl, rfl, valE_mk _ rfl, _, _, _, hRR.out, rd_atom ⟨by decide, by decide⟩ ⟨by decide, by decide⟩ (by rw [hsz.out]; omega), by rw [show p + (1 + (j + i)) = p + 1 + j + i by omega]; exact hv5.out⟩⟩
    have n4 : decide ((c : Int) = 4) = false := decide_eq_false (by omega)
    by_cases k5 : c = 5
    · subst k5
      clear n1 k1 n2 k2 n3 k3 n4 k4
      go_wp2_with fail
      go_step3
      exact ⟨1, _, .inr (.inl ⟨rfl, rfl, (val_mk g d _ rfl).choose_spec, ⟨k, hdr.out, hkc.out⟩, hv2.out⟩)⟩
    have n5 : decide ((c : Int) = 5) = false := decide_eq_false (by omega)
    by_cases k6 : c = 6
    · subst k6
      clear n1 k1 n2 k2 n3 k3 n4 k4 n5 k5
      go_wp2_with fail
      go_step3
      exact ⟨1, _, .inr (.inr ⟨rfl, rfl, (val_mk g d _ rfl).choose_spec, ⟨k, hdr.out, hkc.out⟩, hv2.out⟩)⟩
    have n6 : decide ((c : Int) = 6) = false := decide_eq_false (by omega)
    have hRR : Hid (R = .bad 4) := hR.out.trans (head_0 (by rw [hkc.out]; omega))
    go_wp2_with fail
    rw [jumps_panic]
    exact ⟨rfl, told_bad hRR.out hv2.out.save⟩
end Go.Proofs.YtihcegakghmdfaaDoor
