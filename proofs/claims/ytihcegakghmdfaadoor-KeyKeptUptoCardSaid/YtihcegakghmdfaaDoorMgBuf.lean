/-
  A row of bytes that a call builds, from append to append; no program. No condition.
  Slices that a call builds, whose elements lead to memory that came up meanwhile: append's law for them; slices of bytes, read. No condition.
-/
import Derived.Lib.BufSteps
import Derived.Test.YtihcegakghmdfaaDoorMgPlain
import Derived.Laws.OwnMore
namespace Go.Proofs.YtihcegakghmdfaaDoor
open Go.RowKit Go.Proofs

def bcells (l : List UInt8) : List Value := l.map fun b => Value.int .u8 b.toNat
theorem bcells_length (l : List UInt8) : (bcells l).length = l.length := List.length_map _
theorem bcells_append (a b : List UInt8) : bcells (a ++ b) = bcells a ++ bcells b := List.map_append
theorem bcells_str (s : ByteArray) : Lib.strCells s = bcells s.data.toList := rfl
theorem bcells_one (l : List UInt8) : ∀ u ∈ bcells l, u.oneCell' = true := by
  intro u hu
  obtain ⟨b, _, rfl⟩ := List.mem_map.1 hu
  rfl

/-- What a type []byte is. -/
structure Byte8 (P : Program) (t e : TypeId) (i : TypeInfo) : Prop where
  ht : P.underlying t = some (.slice e)
  hi : P.info? e = some i
  hz : i.zero = some (.int .u8 0)
  hsize : i.size = 1
  hby : i.bytes = 1

def Buf (B : Nat) (e : TypeId) (W0 w : World) (l : List UInt8) (v : Value) : Prop := Lib.OwnBuf B e v l.length (bcells l) W0 w
/-- From block g's head on lie these bytes. -/
def Src (w : World) (g : Nat) (l : List UInt8) : Prop := ∀ j u, (bcells l)[j]? = some u → w.cell? ((⟨g, 0, none⟩ : Addr).add j) = some u

theorem Buf.nil {B : Nat} {e : TypeId} {W0 w : World} (h : Below B W0 w) (hB : B ≤ w.heap.size) : Buf B e W0 w [] (.slice none 0 0) := ⟨World.ownsRowF_nil _ _ _ _, h, hB⟩
theorem Buf.below {B : Nat} {e : TypeId} {W0 w : World} {l : List UInt8} {v : Value} (h : Buf B e W0 w l v) : Below B W0 w := h.2.1
theorem Buf.later {B : Nat} {e : TypeId} {W0 w w' : World} {l : List UInt8} {v : Value} (h : Buf B e W0 w l v) (hb : Below w.heap.size w w') : Buf B e W0 w' l v :=
  ⟨h.1.kept (row := none) ⟨hb.os, hb.tape, hb.output, hb.size, fun k hk _ => hb.block k hk⟩ (by cases v.ownBlock <;> simp), h.2.1.trans (hb.mono h.2.2), Nat.le_trans h.2.2 hb.size⟩
theorem Buf.base {B B' : Nat} {e : TypeId} {W0 W0' w : World} {l : List UInt8} {v : Value} (h : Buf B e W0 w l v) (hB : B' ≤ B) (k : Below B' W0' W0) : Buf B' e W0' w l v := by
  refine ⟨⟨h.1.1, ?_⟩, k.trans (h.2.1.mono hB), Nat.le_trans hB h.2.2⟩
  rcases h.1.2 with h0 | ⟨g, cap, cur, fz, hv, hb, hg, hr⟩
  · exact .inl h0
  · exact .inr ⟨g, cap, cur, fz, hv, Nat.le_trans hB hb, hg, hr⟩
theorem Buf.form {B : Nat} {e : TypeId} {W0 w : World} {l : List UInt8} {v : Value} (h : Buf B e W0 w l v) (hl : l ≠ []) : ∃ g cap, v = .slice (some ⟨g, 0, none⟩) l.length cap ∧ l.length ≤ cap := by
  rcases h.1.2 with ⟨_, h0⟩ | ⟨g, cap, cur, fz, hv, hb, hg, _, hc, _⟩
  · exact absurd (List.eq_nil_of_length_eq_zero h0) hl
  · exact ⟨g, cap, hv, hc⟩
theorem Buf.any {B : Nat} {e : TypeId} {W0 w : World} {l : List UInt8} {v : Value} (h : Buf B e W0 w l v) : ∃ a cap, v = .slice a l.length cap ∧ l.length ≤ cap ∧ cap ≤ 9223372036854775807 := by
  rcases h.1.2 with ⟨hv, h0⟩ | ⟨g, cap, cur, fz, hv, hb, hg, _, hc, hm, _⟩
  · exact ⟨none, 0, by rw [hv, h0], by omega, by omega⟩
  · exact ⟨_, cap, hv, hc, by unfold maxLen at hm; omega⟩
theorem Buf.src {B : Nat} {e : TypeId} {W0 w : World} {l : List UInt8} {g n c : Nat} (h : Buf B e W0 w l (.slice (some ⟨g, 0, none⟩) n c)) : Src w g l := h.1.cells (g := g) rfl
theorem Src.later {w w' : World} {g : Nat} {l : List UInt8} (h : Src w g l) (hb : Below w.heap.size w w') : Src w' g l := fun j u hu => (hb.cell (World.block_lt_of_cell? w _ (h j u hu))).trans (h j u hu)
/-- The bytes of a slice that was just built. -/
theorem src_new {w : World} {g : Nat} (l : List UInt8) {cs : Array Value} (t : TypeId) (hc : cs = (bcells l).toArray) (hg : g = w.heap.size) : Src (w.alloc (.cells cs t)) g l := by
  subst hc
  exact cells_new w g hg (bcells l) t
theorem buf_new {W0 w : World} (l : List UInt8) {cs : Array Value} {e : TypeId} {B : Nat} (hb : Below B W0 w) (hB : B ≤ w.heap.size) (hc : cs = (bcells l).toArray) (hl : l.length ≤ maxLen) :
    Buf B e W0 (w.alloc (.cells cs e)) l (.slice (some ⟨w.heap.size, 0, none⟩) l.length l.length) := by
  subst hc
  refine ⟨World.ownsRowF_of ?_, hb.alloc hB _, Nat.le_trans hB (below_new w (.cells (bcells l).toArray e)).size⟩
  have := World.ownsRow_lit (base := B) (e := e) (size := 1) w (bcells l).toArray l.length hB hl (by simp [bcells_length])
  simpa using this

section
variable {P : Program} {t e : TypeId} {i : TypeInfo} {o : Oper} {a : Act} {Q : Exit → Act → World → Prop} {B : Nat} {W0 w : World} {l : List UInt8} {v : Value}

theorem wp_buf_made {K : Act → World → Prop} (s x : Operand) (ho : o.op = .call { callee := .builtin .append, args := #[s, x], argTypes := #[t, t] }) (hP : Byte8 P t e i) (hs : a.eval s = v) (hb : Buf B e W0 w l v)
    (l' : List UInt8) (g m c : Nat) (hx : a.eval x = .slice (some ⟨g, 0, none⟩) m c) (hm : m = l'.length) (hsrc : Src w g l') (hlen : l.length + l'.length ≤ 140737488355328)
    (h : ∀ v' w', Buf B e W0 w' (l ++ l') v' → K (a.put o.dst v') w') : o.wp P a w K Q := by
  subst hm
  obtain ⟨v', w', hr, h2, h3, h4⟩ := run_append_ownF (P := P) w B t o.type e i (.int .u8 0) 1 1 hP.ht hP.hi hP.hz hP.hsize hP.hby rfl (by decide) v l.length (bcells l) hb.1 ⟨g, 0, none⟩ l'.length c (bcells l') (by simp [bcells_length]) hsrc (bcells_one l') (by unfold maxLen; omega) (by omega) hb.2.2
  unfold Oper.wp execOp
  simp only [ho, resolve, invoke, builtin, Sem.run_bind, Sem.run_pure, Result.andThen_ok, List.map_toArray, List.map_cons, List.map_nil, hs, hx, hr]
  exact h v' w' (by unfold Buf; rw [List.length_append, bcells_append]; exact Lib.OwnBuf.grown hb h2 h3)
theorem wp_buf_text {K : Act → World → Prop} {u : TypeId} (s x : Operand) (ho : o.op = .call { callee := .builtin .append, args := #[s, x], argTypes := #[t, u] }) (hP : Byte8 P t e i) (hu : P.underlying u = some .string) (hs : a.eval s = v) (hb : Buf B e W0 w l v)
    (str : ByteArray) (hx : a.eval x = .string str) (hlen : l.length + str.size ≤ 140737488355328)
    (h : ∀ v' w', Buf B e W0 w' (l ++ str.data.toList) v' → K (a.put o.dst v') w') : o.wp P a w K Q := by
  obtain ⟨v', w', hr, h2, h3, h4⟩ := Lib.run_append_own_stringF (P := P) w B t u o.type e i hP.ht hu hP.hi hP.hz hP.hsize hP.hby v l.length (bcells l) hb.1 str (by unfold maxLen; omega) hlen hb.2.2
  unfold Oper.wp execOp
  simp only [ho, resolve, invoke, builtin, Sem.run_bind, Sem.run_pure, Result.andThen_ok, List.map_toArray, List.map_cons, List.map_nil, hs, hx, hr]
  refine h v' w' ?_
  unfold Buf
  rw [List.length_append, bcells_append, show str.data.toList.length = str.size by simp]
  exact Lib.OwnBuf.grown hb h2 h3

theorem wpList_buf_made {ops : Array Oper} {rest : List Oper} (hgd : o.guard = none) (s x : Operand) (ho : o.op = .call { callee := .builtin .append, args := #[s, x], argTypes := #[t, t] }) (hP : Byte8 P t e i) (hs : a.eval s = v) (hb : Buf B e W0 w l v)
    (l' : List UInt8) (g m c : Nat) (hx : a.eval x = .slice (some ⟨g, 0, none⟩) m c) (hm : m = l'.length) (hsrc : Src w g l') (hlen : l.length + l'.length ≤ 140737488355328)
    (h : ∀ v' w', Buf B e W0 w' (l ++ l') v' → wpList P ops Q rest (a.put o.dst v') w') : wpList P ops Q (o :: rest) a w :=
  wpList_plain hgd fun _ hK => wp_buf_made s x ho hP hs hb l' g m c hx hm hsrc hlen fun v' w' h' => hK _ _ (h v' w' h')
theorem wpList_buf_text {ops : Array Oper} {rest : List Oper} {u : TypeId} (hgd : o.guard = none) (s x : Operand) (ho : o.op = .call { callee := .builtin .append, args := #[s, x], argTypes := #[t, u] }) (hP : Byte8 P t e i) (hu : P.underlying u = some .string) (hs : a.eval s = v) (hb : Buf B e W0 w l v)
    (str : ByteArray) (hx : a.eval x = .string str) (hlen : l.length + str.size ≤ 140737488355328)
    (h : ∀ v' w', Buf B e W0 w' (l ++ str.data.toList) v' → wpList P ops Q rest (a.put o.dst v') w') : wpList P ops Q (o :: rest) a w :=
  wpList_plain hgd fun _ hK => wp_buf_text s x ho hP hu hs hb str hx hlen fun v' w' h' => hK _ _ (h v' w' h')
theorem step_buf_made {ops : Array Oper} {K : Act → World → Prop} {E : Prop} (hgd : o.guard = none) (s x : Operand) (ho : o.op = .call { callee := .builtin .append, args := #[s, x], argTypes := #[t, t] }) (hP : Byte8 P t e i) (hs : a.eval s = v) (hb : Buf B e W0 w l v)
    (l' : List UInt8) (g m c : Nat) (hx : a.eval x = .slice (some ⟨g, 0, none⟩) m c) (hm : m = l'.length) (hsrc : Src w g l') (hlen : l.length + l'.length ≤ 140737488355328)
    (h : ∀ v' w', Buf B e W0 w' (l ++ l') v' → K (a.put o.dst v') w') : if Region.wanted o (yielded ops a.tmps) = true then Oper.wp P o a w K Q else E := by
  rw [if_pos (by simp [Region.wanted, hgd])]
  exact wp_buf_made s x ho hP hs hb l' g m c hx hm hsrc hlen h
theorem step_buf_text {ops : Array Oper} {K : Act → World → Prop} {E : Prop} {u : TypeId} (hgd : o.guard = none) (s x : Operand) (ho : o.op = .call { callee := .builtin .append, args := #[s, x], argTypes := #[t, u] }) (hP : Byte8 P t e i) (hu : P.underlying u = some .string) (hs : a.eval s = v) (hb : Buf B e W0 w l v)
    (str : ByteArray) (hx : a.eval x = .string str) (hlen : l.length + str.size ≤ 140737488355328)
    (h : ∀ v' w', Buf B e W0 w' (l ++ str.data.toList) v' → K (a.put o.dst v') w') : if Region.wanted o (yielded ops a.tmps) = true then Oper.wp P o a w K Q else E := by
  rw [if_pos (by simp [Region.wanted, hgd])]
  exact wp_buf_text s x ho hP hu hs hb str hx hlen h
end
end Go.Proofs.YtihcegakghmdfaaDoor

namespace Go.Proofs.YtihcegakghmdfaaDoor
open Go.RowKit

section
variable {P : Program}
/-- append to a row of the call's own: the row stays where it was or lies in new memory. -/
theorem run_append_apart (w : World) (base : Nat) (t ty e : TypeId) (i : TypeInfo) (z : Value) (size bytes : Nat) (ht : P.underlying t = some (.slice e)) (hi : P.info? e = some i) (hz : i.zero = some z)
    (hsize : i.size = size) (hby : i.bytes = bytes) (hzs : z.cells.size = size) (hsz : 0 < size)
    (v : Value) (n : Nat) (xs : List Value) (hown : w.ownsRow base e size v n xs)
    (a : Addr) (m c : Nat) (news : List Value) (hl : news.length = m * size) (hnews : ∀ j u, news[j]? = some u → w.cell? (a.add j) = some u) (h1 : ∀ u ∈ news, u.oneCell' = true)
    (h63 : n + m ≤ maxLen) (hbytes : (n + m) * bytes ≤ 140737488355328) (hbase : base ≤ w.heap.size) :
    ∃ v' w', (Builtin.append_ #[t, t] ty #[v, .slice (some a) m c]).run P w = .ok v' w' ∧ w'.ownsRow base e size v' (n + m) (xs ++ news) ∧ w.grownBy w' v.ownBlock ∧
      (∀ b, v'.ownBlock = some b → v.ownBlock = some b ∨ w.heap.size ≤ b) ∧ (∀ g cap, v = .slice (some ⟨g, 0, none⟩) n cap → n + m ≤ cap → v' = .slice (some ⟨g, 0, none⟩) (n + m) cap) := by
  obtain ⟨v', w', hr, h2, h3, _⟩ := run_append_own (P := P) w base t ty e i z size bytes ht hi hz hsize hby hzs hsz v n xs hown a m c news hl hnews h1 h63 hbytes hbase
  refine ⟨v', w', hr, h2, h3, ?_⟩
  rcases hown.2 with ⟨rfl, rfl⟩ | ⟨g, cap, cur, rfl, hbg, hg, hnc, hcm, hcs, htake⟩
  · have hx : xs = [] := List.eq_nil_of_length_eq_zero (by simpa using hown.1)
    subst hx
    obtain ⟨v2, w2, hr2, h22, _, _⟩ := run_append_own (P := P) w w.heap.size t ty e i z size bytes ht hi hz hsize hby hzs hsz _ 0 [] (World.ownsRow_nil w w.heap.size e size) a m c news hl hnews h1 h63 hbytes (Nat.le_refl _)
    obtain ⟨rfl, rfl⟩ : v2 = v' ∧ w2 = w' := by
      have := hr2.symm.trans hr
      injection this with a b
      exact ⟨a, b⟩
    exact ⟨fun b hb => .inr (h22.lt b hb).1, fun g cap h => by injection h with h; cases h⟩
  · by_cases hroom : n + m ≤ cap
    · obtain ⟨w2, hr2, _, _⟩ := run_append_fits (P := P) w base t ty e i size ht hi hsize g n cap xs hown a m c news hl hnews h1 hroom
      have := hr2.symm.trans hr
      injection this with h4 h5
      subst h4
      exact ⟨fun b hb => .inl hb, fun g' cap' he _ => by injection he with h6 h7 h8; injection h6 with h6; injection h6 with h6; subst h6 h8; rfl⟩
    · have holds : ∀ j u, xs[j]? = some u → w.cell? ((⟨g, 0, none⟩ : Addr).add j) = some u := hown.cells (g := g) rfl
      subst hsize
      subst hby
      have hr2 := run_append_grow (P := P) w t ty e i z ht hi hz ⟨g, 0, none⟩ n cap xs hown.1 holds a m c news hl hnews (by omega) (by simp only [maxLen] at h63; omega) (growslice_fits (by omega) hbytes)
      have := hr2.symm.trans hr
      injection this with h4 h5
      subst h4
      exact ⟨fun b hb => .inr (by simp only [Value.ownBlock, Option.some.injEq] at hb; omega), fun g' cap' he hr => by injection he with h6 h7 h8; subst h8; exact absurd hr hroom⟩
end

/-- How an element reads from its cells. -/
structure RowRel {α : Type} (R : World → (Nat → Prop) → α → List Value → Prop) (sz : Nat) : Prop where
  keep : ∀ {w w' : World} {S S' : Nat → Prop} {x : α} {cs : List Value}, (∀ b, S b → S' b) → (∀ b, S b → w'.heap[b]? = w.heap[b]?) → R w S x cs → R w' S' x cs
  one : ∀ {w : World} {S : Nat → Prop} {x : α} {cs : List Value}, R w S x cs → ∀ u ∈ cs, u.oneCell' = true
  len : ∀ {w : World} {S : Nat → Prop} {x : α} {cs : List Value}, R w S x cs → cs.length = sz

theorem valRel : RowRel Rd 5 := ⟨fun h1 h2 h => h.keep h1 h2, fun h => h.one, fun h => h.len⟩

/-- A field's cells. -/
def RdFl (w : World) (S : Nat → Prop) (x : ByteArray × PVal) (cs : List Value) : Prop := ∃ ys, cs = .string x.1 :: ys ∧ x.1.size ≤ 140737488355328 ∧ Rd w S x.2 ys
theorem fldRel : RowRel RdFl 6 :=
  ⟨fun h1 h2 ⟨ys, a, b, h⟩ => ⟨ys, a, b, h.keep h1 h2⟩, fun ⟨ys, a, _, h⟩ u hu => by
    subst a
    rcases List.mem_cons.1 hu with rfl | hu
    · rfl
    · exact h.one u hu, fun ⟨ys, a, _, h⟩ => by rw [a, List.length_cons, h.len]⟩

/-- Blocks from B on, the slice's own row not among them. -/
def Apart (B : Nat) (w : World) (v : Value) (b : Nat) : Prop := B ≤ b ∧ b < w.heap.size ∧ v.ownBlock ≠ some b
/-- Blocks from B on. -/
def From (B : Nat) (w : World) (b : Nat) : Prop := B ≤ b ∧ b < w.heap.size
/-- A slice of the call's own, its row in a block from A on; what its elements lead to lies in blocks from B on, the row not among them. -/
def OwnG {α : Type} (R : World → (Nat → Prop) → α → List Value → Prop) (sz A B e : Nat) (w : World) (xs : List α) (v : Value) : Prop :=
  ∃ css : List (List Value), css.length = xs.length ∧ w.ownsRow A e sz v xs.length css.flatten ∧ ∀ (i : Nat) (x : α) (cs : List Value), xs[i]? = some x → css[i]? = some cs → R w (Apart B w v) x cs

section
variable {α : Type} {R : World → (Nat → Prop) → α → List Value → Prop} {sz A B e : Nat}
theorem OwnG.nil (w : World) : OwnG R sz A B e w [] (.slice none 0 0) := ⟨[], rfl, World.ownsRow_nil _ _ _ _, fun i x cs h => by simp at h⟩
theorem OwnG.empty {w : World} {v : Value} (h : w.ownsRow A e sz v 0 []) : OwnG R sz A B e w [] v := ⟨[], rfl, h, fun i x cs h => by simp at h⟩
theorem OwnG.lt {w : World} {xs : List α} {v : Value} (h : OwnG R sz A B e w xs v) (b : Nat) (hb : v.ownBlock = some b) : A ≤ b ∧ b < w.heap.size := by
  obtain ⟨css, _, ho, _⟩ := h
  exact ho.lt b hb
theorem OwnG.form {w : World} {xs : List α} {v : Value} (h : OwnG R sz A B e w xs v) : ∃ a c, v = .slice a xs.length c ∧ xs.length ≤ c := by
  obtain ⟨css, _, ho, _⟩ := h
  rcases ho.2 with ⟨rfl, h0⟩ | ⟨g, cap, cur, rfl, _, _, hc, _⟩
  · exact ⟨none, 0, by rw [h0], by omega⟩
  · exact ⟨_, cap, rfl, hc⟩
/-- The world turns elsewhere: the slice stays. -/
theorem OwnG.keep (hR : RowRel R sz) {w w' : World} {xs : List α} {v : Value} (h : OwnG R sz A B e w xs v) (hsz : w.heap.size ≤ w'.heap.size) (ho : ∀ b, v.ownBlock = some b → w'.heap[b]? = w.heap[b]?) (hb : ∀ b, Apart B w v b → w'.heap[b]? = w.heap[b]?) : OwnG R sz A B e w' xs v := by
  obtain ⟨css, hlen, hr0, hr⟩ := h
  refine ⟨css, hlen, ⟨hr0.1, ?_⟩, fun i x cs hx hc => hR.keep (fun b h => ⟨h.1, Nat.lt_of_lt_of_le h.2.1 hsz, h.2.2⟩) hb (hr i x cs hx hc)⟩
  rcases hr0.2 with hn | ⟨g, cap, cur, rfl, hB, hg, rest⟩
  · exact .inl hn
  · exact .inr ⟨g, cap, cur, rfl, hB, (ho g rfl).trans hg, rest⟩
theorem OwnG.later (hR : RowRel R sz) {w w' : World} {xs : List α} {v : Value} (h : OwnG R sz A B e w xs v) (hb : Below w.heap.size w w') : OwnG R sz A B e w' xs v :=
  h.keep hR hb.size (fun b hl => hb.block b (h.lt b hl).2) (fun b hl => hb.block b hl.2.1)

theorem OwnG.push (hR : RowRel R sz) {w w' : World} {xs : List α} {v v' : Value} {css : List (List Value)} {x : α} {cs : List Value}
    (hlen : css.length = xs.length) (hr : ∀ (i : Nat) (y : α) (ys : List Value), xs[i]? = some y → css[i]? = some ys → R w (Apart B w v) y ys)
    (ho : w'.ownsRow A e sz v' (xs.length + 1) (css.flatten ++ cs)) (hk : ∀ b, Apart B w v b → w'.heap[b]? = w.heap[b]?) (hS : ∀ b, Apart B w v b → Apart B w' v' b) (hx : R w (Apart B w v) x cs) : OwnG R sz A B e w' (xs ++ [x]) v' := by
  refine ⟨css ++ [cs], by simp [hlen], by simpa using ho, fun i y ys hy hys => ?_⟩
  rcases Nat.lt_trichotomy i xs.length with hlt | heq | hgt
  · rw [List.getElem?_append_left hlt] at hy
    rw [List.getElem?_append_left (by omega)] at hys
    exact hR.keep hS hk (hr i y ys hy hys)
  · subst heq
    rw [List.getElem?_append_right (Nat.le_refl _)] at hy
    rw [List.getElem?_append_right (by omega)] at hys
    simp at hy
    simp [hlen] at hys
    subst hy hys
    exact hR.keep hS hk hx
  · rw [List.getElem?_append_right (by omega)] at hy
    obtain ⟨m, hm⟩ : ∃ m, i - xs.length = m + 1 := ⟨i - xs.length - 1, by omega⟩
    rw [hm] at hy
    simp at hy

/-- append of one element, as a step of a plain list of operations or of a region that draws. -/
theorem wp_append_g {P : Program} (hR : RowRel R sz) (w : World) {o : Oper} {a : Act} {K : Act → World → Prop} {Q : Exit → Act → World → Prop} (s x : Operand) (t : TypeId)
    (ho : o.op = .call { callee := .builtin .append, args := #[s, x], argTypes := #[t, t] })
    (A B e bytes : Nat) (i : TypeInfo) (z : Value) (ht : P.underlying t = some (.slice e)) (hi : P.info? e = some i) (hz : i.zero = some z) (hsize : i.size = sz) (hby : i.bytes = bytes) (hzs : z.cells.size = sz) (hsz : 0 < sz)
    (xs : List α) (v : Value) (hs : a.eval s = v) (hown : OwnG R sz A B e w xs v)
    (ad : Addr) (c : Nat) (cs : List Value) (X : α) (hx : a.eval x = .slice (some ad) 1 c) (hcs : ∀ j u, cs[j]? = some u → w.cell? (ad.add j) = some u) (hX : R w (Apart B w v) X cs)
    (hlim : (xs.length + 1) * bytes ≤ 140737488355328) (hlim' : xs.length + 1 ≤ maxLen) (hB : A ≤ w.heap.size)
    (h : ∀ v' w', OwnG R sz A B e w' (xs ++ [X]) v' → w.grownBy w' v.ownBlock → (∀ b, v'.ownBlock = some b → v.ownBlock = some b ∨ w.heap.size ≤ b) → (∀ g cap, v = .slice (some ⟨g, 0, none⟩) xs.length cap → xs.length + 1 ≤ cap → v' = .slice (some ⟨g, 0, none⟩) (xs.length + 1) cap) → K (a.put o.dst v') w') : o.wp P a w K Q := by
  obtain ⟨css, hlen, hor, hr⟩ := hown
  obtain ⟨v', w', hrun, h2, h3, h4, h5⟩ := run_append_apart (P := P) w A t o.type e i z sz bytes ht hi hz hsize hby hzs hsz v xs.length css.flatten hor ad 1 c cs (by rw [hR.len hX, Nat.one_mul]) hcs (hR.one hX) hlim' hlim hB
  unfold Oper.wp execOp
  simp only [ho, resolve, invoke, builtin, Sem.run_bind, Sem.run_pure, Result.andThen_ok, List.map_toArray, List.map_cons, List.map_nil, hs, hx, hrun]
  refine h v' w' (OwnG.push hR hlen hr h2 (fun b hb => h3.block b hb.2.1 (fun he => hb.2.2 he.symm)) (fun b hb => ⟨hb.1, Nat.lt_of_lt_of_le hb.2.1 h3.size, fun he => ?_⟩) hX) h3 h4 h5
  rcases h4 b he with h6 | h6
  · exact hb.2.2 h6
  · have := hb.2.1; omega
theorem wpList_append_g {P : Program} (hR : RowRel R sz) (w : World) {ops : Array Oper} {rest : List Oper} {o : Oper} {a : Act} {Q : Exit → Act → World → Prop} (hgd : o.guard = none) (s x : Operand) (t : TypeId)
    (ho : o.op = .call { callee := .builtin .append, args := #[s, x], argTypes := #[t, t] })
    (A B e bytes : Nat) (i : TypeInfo) (z : Value) (ht : P.underlying t = some (.slice e)) (hi : P.info? e = some i) (hz : i.zero = some z) (hsize : i.size = sz) (hby : i.bytes = bytes) (hzs : z.cells.size = sz) (hsz : 0 < sz)
    (xs : List α) (v : Value) (hs : a.eval s = v) (hown : OwnG R sz A B e w xs v)
    (ad : Addr) (c : Nat) (cs : List Value) (X : α) (hx : a.eval x = .slice (some ad) 1 c) (hcs : ∀ j u, cs[j]? = some u → w.cell? (ad.add j) = some u) (hX : R w (Apart B w v) X cs)
    (hlim : (xs.length + 1) * bytes ≤ 140737488355328) (hlim' : xs.length + 1 ≤ maxLen) (hB : A ≤ w.heap.size)
    (h : ∀ v' w', OwnG R sz A B e w' (xs ++ [X]) v' → w.grownBy w' v.ownBlock → (∀ b, v'.ownBlock = some b → v.ownBlock = some b ∨ w.heap.size ≤ b) → (∀ g cap, v = .slice (some ⟨g, 0, none⟩) xs.length cap → xs.length + 1 ≤ cap → v' = .slice (some ⟨g, 0, none⟩) (xs.length + 1) cap) → wpList P ops Q rest (a.put o.dst v') w') : wpList P ops Q (o :: rest) a w :=
  wpList_plain hgd fun _ hK => wp_append_g hR w s x t ho A B e bytes i z ht hi hz hsize hby hzs hsz xs v hs hown ad c cs X hx hcs hX hlim hlim' hB fun v' w' h2 h3 h4 h5 => hK _ _ (h v' w' h2 h3 h4 h5)
theorem step_append_g {P : Program} (hR : RowRel R sz) (w : World) {ops : Array Oper} {o : Oper} {a : Act} {K : Act → World → Prop} {Q : Exit → Act → World → Prop} {E : Prop} (hgd : o.guard = none) (s x : Operand) (t : TypeId)
    (ho : o.op = .call { callee := .builtin .append, args := #[s, x], argTypes := #[t, t] })
    (A B e bytes : Nat) (i : TypeInfo) (z : Value) (ht : P.underlying t = some (.slice e)) (hi : P.info? e = some i) (hz : i.zero = some z) (hsize : i.size = sz) (hby : i.bytes = bytes) (hzs : z.cells.size = sz) (hsz : 0 < sz)
    (xs : List α) (v : Value) (hs : a.eval s = v) (hown : OwnG R sz A B e w xs v)
    (ad : Addr) (c : Nat) (cs : List Value) (X : α) (hx : a.eval x = .slice (some ad) 1 c) (hcs : ∀ j u, cs[j]? = some u → w.cell? (ad.add j) = some u) (hX : R w (Apart B w v) X cs)
    (hlim : (xs.length + 1) * bytes ≤ 140737488355328) (hlim' : xs.length + 1 ≤ maxLen) (hB : A ≤ w.heap.size)
    (h : ∀ v' w', OwnG R sz A B e w' (xs ++ [X]) v' → w.grownBy w' v.ownBlock → (∀ b, v'.ownBlock = some b → v.ownBlock = some b ∨ w.heap.size ≤ b) → (∀ g cap, v = .slice (some ⟨g, 0, none⟩) xs.length cap → xs.length + 1 ≤ cap → v' = .slice (some ⟨g, 0, none⟩) (xs.length + 1) cap) → K (a.put o.dst v') w') : if Region.wanted o (yielded ops a.tmps) = true then Oper.wp P o a w K Q else E := by
  rw [if_pos (by simp [Region.wanted, hgd])]
  exact wp_append_g hR w s x t ho A B e bytes i z ht hi hz hsize hby hzs hsz xs v hs hown ad c cs X hx hcs hX hlim hlim' hB h
theorem OwnG.box (hR : RowRel R sz) {w : World} {xs : List α} {v : Value} (h : OwnG R sz A B e w xs v) (p : Addr) (u : Value) (hp : v.ownBlock ≠ some p.block) (hb : p.block < B) : OwnG R sz A B e (w.setCell p u) xs v :=
  h.keep hR (by simp [World.setCell]) (fun b hb => heap_setCell_other _ _ _ _ (by rintro rfl; exact hp hb)) (fun b h => heap_setCell_other _ _ _ _ (by have := h.1; omega))
theorem grown_from {w w' : World} {A B : Nat} {e sz : TypeId} {xs : List α} {v : Value} (hown : OwnG R sz A B e w xs v) (h : w.grownBy w' v.ownBlock) (hA : A ≤ w.heap.size) : Below A w w' :=
  ⟨h.os, h.tape, h.output, h.size, fun k hk => h.block k (by omega) (fun he => by have := (hown.lt k he.symm).1; omega)⟩

/-- The cells of element i of a slice of the call's own. -/
theorem OwnG.row (hR : RowRel R sz) {w : World} {xs : List α} {v : Value} (h : OwnG R sz A B e w xs v) :
    (v = .slice none 0 0 ∧ xs = []) ∨ ∃ g cap, v = .slice (some ⟨g, 0, none⟩) xs.length cap ∧ xs.length ≤ cap ∧ cap ≤ maxLen ∧ A ≤ g ∧ g < w.heap.size ∧
      ∃ cs : Nat → List Value, (∀ i, i < xs.length → ∀ j u, (cs i)[j]? = some u → w.cell? ⟨g, 0 + i * sz + j, none⟩ = some u) ∧ ∀ (i : Nat) (x : α), xs[i]? = some x → R w (Apart B w v) x (cs i) := by
  obtain ⟨css, hlen, ho, hr⟩ := h
  have h5 : ∀ cs ∈ css, cs.length = sz := by
    intro cs hcs
    obtain ⟨i, hi⟩ := List.getElem?_of_mem hcs
    have hil : i < xs.length := by rw [← hlen]; exact (List.getElem?_eq_some_iff.1 hi).1
    exact hR.len (hr i _ cs (List.getElem?_eq_getElem hil) hi)
  have hcs : ∀ i, i < xs.length → css[i]? = some (css.getD i []) := by
    intro i hi
    have : i < css.length := by omega
    simp [List.getD, List.getElem?_eq_getElem this]
  rcases ho.2 with ⟨rfl, h0⟩ | ⟨g, cap, cur, rfl, hb, hg, hnc, hcm, hsz, htk⟩
  · exact .inl ⟨rfl, List.eq_nil_of_length_eq_zero h0⟩
  · refine .inr ⟨g, cap, rfl, hnc, hcm, hb, (ho.lt g rfl).2, fun i => css.getD i [], fun i hi j u hu => ?_, fun i x hx => ?_⟩
    · have h1 := flatten_at sz css h5 i _ (hcs i hi) j u hu
      have h2 := ho.cells (g := g) rfl _ _ h1
      have h3 : (⟨g, 0, none⟩ : Addr).add (i * sz + j) = ⟨g, 0 + i * sz + j, none⟩ := by
        rw [Addr.add]
        split
        · congr 1; omega
        · show (⟨g, 0 + (i * sz + j), none⟩ : Addr) = ⟨g, 0 + i * sz + j, none⟩
          rw [Nat.add_assoc]
      rw [h3] at h2; exact h2
    · have hi : i < xs.length := (List.getElem?_eq_some_iff.1 hx).1
      exact hr i x _ hx (hcs i hi)
end

theorem OwnG.readL {w : World} {S : Nat → Prop} {A B e : Nat} {xs : List PVal} {v : Value} (h : OwnG Rd 5 A B e w xs v) (ho : ∀ b, v.ownBlock = some b → S b) (hS : ∀ b, Apart B w v b → S b) (hn : xs.length ≤ 1759218604441) : RdL w S xs v := by
  rcases h.row valRel with ⟨rfl, rfl⟩ | ⟨g, cap, rfl, h1, h2, h3, h4, cs, h5, h6⟩
  · exact ⟨none, 0, fun _ => [], rfl, Nat.le_refl _, by simp, .inl rfl, fun i x hx => by simp at hx⟩
  · exact ⟨some ⟨g, 0, none⟩, cap, cs, rfl, h1, ⟨by unfold maxLen at h2; omega, hn⟩, .inr ⟨g, 0, rfl, ho g rfl, h5⟩, fun i x hx => (h6 i x hx).keep hS (fun _ _ => rfl)⟩
theorem OwnG.readF {w : World} {S : Nat → Prop} {A B e : Nat} {xs : List (ByteArray × PVal)} {v : Value} (h : OwnG RdFl 6 A B e w xs v) (ho : ∀ b, v.ownBlock = some b → S b) (hS : ∀ b, Apart B w v b → S b) (hn : xs.length ≤ 1466015503701) : RdF w S (xs.map Prod.fst) (xs.map Prod.snd) v := by
  have hz : ∀ a ∈ xs.map Prod.fst, a.size ≤ 140737488355328 := by
    intro a ha
    obtain ⟨x, hx, rfl⟩ := List.mem_map.1 ha
    obtain ⟨i, hi⟩ := List.getElem?_of_mem hx
    obtain ⟨css, hlen, ho, hr⟩ := h
    obtain ⟨cs, hcs⟩ : ∃ cs, css[i]? = some cs := ⟨_, List.getElem?_eq_getElem (by have := (List.getElem?_eq_some_iff.1 hi).1; omega)⟩
    obtain ⟨_, _, h2, _⟩ := hr i x cs hi hcs
    exact h2
  refine ⟨by simp, hz, ?_⟩
  rcases h.row fldRel with ⟨rfl, rfl⟩ | ⟨g, cap, rfl, h1, h2, h3, h4, cs, h5, h6⟩
  · exact ⟨none, 0, fun _ => [], rfl, Nat.le_refl _, by simp, .inl rfl, fun i x hx => by simp at hx⟩
  · refine ⟨some ⟨g, 0, none⟩, cap, fun i => (cs i).tail, by rw [List.length_map], by rw [List.length_map]; exact h1, ⟨by unfold maxLen at h2; omega, by rw [List.length_map]; exact hn⟩, .inr ⟨g, 0, rfl, ho g rfl, fun i hi j u hu => ?_⟩, fun i x hx => ?_⟩
    · rw [List.length_map] at hi
      have hx : xs[i]? = some xs[i] := List.getElem?_eq_getElem hi
      obtain ⟨ys, hc, _, _⟩ := h6 i _ hx
      have hg : (xs.map Prod.fst).getD i ByteArray.empty = xs[i].1 := by simp [List.getD, hx]
      refine h5 i hi j u ?_
      simp only [hg, hc, List.tail_cons] at hu
      rw [hc]
      exact hu
    · rw [List.getElem?_map] at hx
      obtain ⟨y, hy, rfl⟩ := Option.map_eq_some_iff.1 hx
      obtain ⟨ys, hc, _, hr⟩ := h6 i _ hy
      simp only [hc, List.tail_cons]
      exact hr.keep hS (fun _ _ => rfl)

theorem rd_mk {w : World} {S : Nat → Prop} {k n : Int} {s : ByteArray} {l : List PVal} {fn : List ByteArray} {fv : List PVal} {vl vf : Value} (hk : -9223372036854775808 ≤ k ∧ k ≤ 9223372036854775807) (hn : -9223372036854775808 ≤ n ∧ n ≤ 9223372036854775807) (hs : s.size ≤ 140737488355328)
    (hL : RdL w S l vl) (hF : RdF w S fn fv vf) : Rd w S (.mk k n s l fn fv) [.int .i64 k, .int .i64 n, .string s, vl, vf] := by
  obtain ⟨la, lc, lcs, rfl, h1, h2, h3, h4⟩ := hL
  obtain ⟨hlen, hfs, fa, fc, fcs, rfl, g1, g2, g3, g4⟩ := hF
  exact .mk lcs fcs hk hn hs hfs hlen h1 h2 g1 g2 h3 h4 g3 g4
theorem rdL_nil {w : World} {S : Nat → Prop} : RdL w S [] (.slice none 0 0) := ⟨none, 0, fun _ => [], rfl, Nat.le_refl _, by simp, .inl rfl, fun i x hx => by simp at hx⟩
theorem rdF_nil {w : World} {S : Nat → Prop} : RdF w S [] [] (.slice none 0 0) := ⟨rfl, by simp, none, 0, fun _ => [], rfl, Nat.le_refl _, by simp, .inl rfl, fun i x hx => by simp at hx⟩
/-- A slice of bytes in blocks of which S holds. -/
def BytesAt (w : World) (S : Nat → Prop) (l : List UInt8) (v : Value) : Prop :=
  ∃ (a : Option Addr) (cap : Nat), v = .slice a l.length cap ∧ l.length ≤ cap ∧ cap ≤ 9223372036854775807 ∧
    (l = [] ∨ ∃ b off, a = some ⟨b, off, none⟩ ∧ S b ∧ ∀ (j : Nat) (c : UInt8), l[j]? = some c → w.cell? ⟨b, off + j, none⟩ = some (.int .u8 c.toNat))
theorem BytesAt.keep {w w' : World} {S S' : Nat → Prop} {l : List UInt8} {v : Value} (h : BytesAt w S l v) (hS : ∀ b, S b → S' b) (hb : ∀ b, S b → w'.heap[b]? = w.heap[b]?) : BytesAt w' S' l v := by
  obtain ⟨a, cap, h1, h2, h3, h4⟩ := h
  refine ⟨a, cap, h1, h2, h3, ?_⟩
  rcases h4 with h4 | ⟨b, off, h4, h5, h6⟩
  · exact .inl h4
  · exact .inr ⟨b, off, h4, hS b h5, fun j c hc => (World.cell?_of_block (w := w) (hb b h5)).trans (h6 j c hc)⟩
theorem BytesAt.later {w w' : World} {l : List UInt8} {v : Value} (h : BytesAt w (Now w) l v) (hb : Below w.heap.size w w') : BytesAt w' (Now w') l v :=
  h.keep (fun _ hk => Nat.lt_of_lt_of_le hk hb.size) (fun b hk => hb.block b hk)
theorem Buf.bytes {B : Nat} {e : TypeId} {W0 w : World} {l : List UInt8} {v : Value} (h : Buf B e W0 w l v) : BytesAt w (Now w) l v := by
  obtain ⟨a, cap, rfl, h2, h3⟩ := h.any
  refine ⟨a, cap, rfl, h2, h3, ?_⟩
  by_cases hl : l = []
  · exact .inl hl
  · obtain ⟨g, cap', he, _⟩ := h.form hl
    injection he with e1 e2 e3
    subst e1
    have hs := h.src
    have hlt : g < w.heap.size := by
      cases l with
      | nil => exact absurd rfl hl
      | cons c r => exact World.block_lt_of_cell? w _ (hs 0 (.int .u8 c.toNat) rfl)
    refine .inr ⟨g, 0, rfl, hlt, fun j c hc => ?_⟩
    have := hs j (.int .u8 c.toNat) (by simp [bcells, hc])
    rwa [show (⟨g, 0, none⟩ : Addr).add j = ⟨g, 0 + j, none⟩ by rw [Addr.add]; split <;> simp_all] at this
end Go.Proofs.YtihcegakghmdfaaDoor
