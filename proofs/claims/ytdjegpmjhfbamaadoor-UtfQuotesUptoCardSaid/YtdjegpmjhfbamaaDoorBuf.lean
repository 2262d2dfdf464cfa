/-
  A row of bytes that a call builds, from append to append; no program. No condition.
-/
import Derived.Lib.BufSteps
import Derived.Test.YtdjegpmjhfbamaaDoorMem
namespace Go.Proofs.YtdjegpmjhfbamaaDoor
open Go.RowKit Go.Proofs

def bcells (l : List UInt8) : List Value := l.map fun b => Value.int .u8 b.toNat
theorem bcells_length (l : List UInt8) : (bcells l).length = l.length := List.length_map _
theorem bcells_append (a b : List UInt8) : bcells (a ++ b) = bcells a ++ bcells b := List.map_append
theorem bcells_str (s : ByteArray) : Lib.strCells s = bcells s.data.toList := rfl
theorem bcells_one (l : List UInt8) : ∀ u ∈ bcells l, u.oneCell' = true := by
  intro u hu
  obtain ⟨b, _, rfl⟩ := List.mem_map.1 hu
  rfl

/-- What a type []byte is. -/
structure Byte8 (P : Program) (t e : TypeId) (i : TypeInfo) : Prop where
  ht : P.underlying t = some (.slice e)
  hi : P.info? e = some i
  hz : i.zero = some (.int .u8 0)
  hsize : i.size = 1
  hby : i.bytes = 1

def Buf (B : Nat) (e : TypeId) (W0 w : World) (l : List UInt8) (v : Value) : Prop := Lib.OwnBuf B e v l.length (bcells l) W0 w
/-- From block g's head on lie these bytes. -/
def Src (w : World) (g : Nat) (l : List UInt8) : Prop := ∀ j u, (bcells l)[j]? = some u → w.cell? ((⟨g, 0, none⟩ : Addr).add j) = some u

theorem Buf.nil {B : Nat} {e : TypeId} {W0 w : World} (h : Below B W0 w) (hB : B ≤ w.heap.size) : Buf B e W0 w [] (.slice none 0 0) := ⟨World.ownsRowF_nil _ _ _ _, h, hB⟩
theorem Buf.below {B : Nat} {e : TypeId} {W0 w : World} {l : List UInt8} {v : Value} (h : Buf B e W0 w l v) : Below B W0 w := h.2.1
theorem Buf.later {B : Nat} {e : TypeId} {W0 w w' : World} {l : List UInt8} {v : Value} (h : Buf B e W0 w l v) (hb : Below w.heap.size w w') : Buf B e W0 w' l v :=
  ⟨h.1.kept (row := none) ⟨hb.os, hb.tape, hb.output, hb.size, fun k hk _ => hb.block k hk⟩ (by cases v.ownBlock <;> simp), h.2.1.trans (hb.mono h.2.2), Nat.le_trans h.2.2 hb.size⟩
theorem Buf.base {B B' : Nat} {e : TypeId} {W0 W0' w : World} {l : List UInt8} {v : Value} (h : Buf B e W0 w l v) (hB : B' ≤ B) (k : Below B' W0' W0) : Buf B' e W0' w l v := by
  refine ⟨⟨h.1.1, ?_⟩, k.trans (h.2.1.mono hB), Nat.le_trans hB h.2.2⟩
  rcases h.1.2 with h0 | ⟨g, cap, cur, fz, hv, hb, hg, hr⟩
  · exact .inl h0
  · exact .inr ⟨g, cap, cur, fz, hv, Nat.le_trans hB hb, hg, hr⟩
theorem Buf.form {B : Nat} {e : TypeId} {W0 w : World} {l : List UInt8} {v : Value} (h : Buf B e W0 w l v) (hl : l ≠ []) : ∃ g cap, v = .slice (some ⟨g, 0, none⟩) l.length cap ∧ l.length ≤ cap := by
  rcases h.1.2 with ⟨_, h0⟩ | ⟨g, cap, cur, fz, hv, hb, hg, _, hc, _⟩
  · exact absurd (List.eq_nil_of_length_eq_zero h0) hl
  · exact ⟨g, cap, hv, hc⟩
theorem Buf.any {B : Nat} {e : TypeId} {W0 w : World} {l : List UInt8} {v : Value} (h : Buf B e W0 w l v) : ∃ a cap, v = .slice a l.length cap ∧ l.length ≤ cap ∧ cap ≤ 9223372036854775807 := by
  rcases h.1.2 with ⟨hv, h0⟩ | ⟨g, cap, cur, fz, hv, hb, hg, _, hc, hm, _⟩
  · exact ⟨none, 0, by rw [hv, h0], by omega, by omega⟩
  · exact ⟨_, cap, hv, hc, by unfold maxLen at hm; omega⟩
theorem Buf.src {B : Nat} {e : TypeId} {W0 w : World} {l : List UInt8} {g n c : Nat} (h : Buf B e W0 w l (.slice (some ⟨g, 0, none⟩) n c)) : Src w g l := h.1.cells (g := g) rfl
theorem Src.later {w w' : World} {g : Nat} {l : List UInt8} (h : Src w g l) (hb : Below w.heap.size w w') : Src w' g l := fun j u hu => (hb.cell (World.block_lt_of_cell? w _ (h j u hu))).trans (h j u hu)
/-- The bytes of a slice that was just built. -/
theorem src_new {w : World} {g : Nat} (l : List UInt8) {cs : Array Value} (t : TypeId) (hc : cs = (bcells l).toArray) (hg : g = w.heap.size) : Src (w.alloc (.cells cs t)) g l := by
  subst hc
  exact cells_new w g hg (bcells l) t
theorem buf_new {W0 w : World} (l : List UInt8) {cs : Array Value} {e : TypeId} {B : Nat} (hb : Below B W0 w) (hB : B ≤ w.heap.size) (hc : cs = (bcells l).toArray) (hl : l.length ≤ maxLen) :
    Buf B e W0 (w.alloc (.cells cs e)) l (.slice (some ⟨w.heap.size, 0, none⟩) l.length l.length) := by
  subst hc
  refine ⟨World.ownsRowF_of ?_, hb.alloc hB _, Nat.le_trans hB (below_new w (.cells (bcells l).toArray e)).size⟩
  have := World.ownsRow_lit (base := B) (e := e) (size := 1) w (bcells l).toArray l.length hB hl (by simp [bcells_length])
  simpa using this

section
variable {P : Program} {t e : TypeId} {i : TypeInfo} {o : Oper} {a : Act} {Q : Exit → Act → World → Prop} {B : Nat} {W0 w : World} {l : List UInt8} {v : Value}

theorem wp_buf_made {K : Act → World → Prop} (s x : Operand) (ho : o.op = .call { callee := .builtin .append, args := #[s, x], argTypes := #[t, t] }) (hP : Byte8 P t e i) (hs : a.eval s = v) (hb : Buf B e W0 w l v)
    (l' : List UInt8) (g m c : Nat) (hx : a.eval x = .slice (some ⟨g, 0, none⟩) m c) (hm : m = l'.length) (hsrc : Src w g l') (hlen : l.length + l'.length ≤ 140737488355328)
    (h : ∀ v' w', Buf B e W0 w' (l ++ l') v' → K (a.put o.dst v') w') : o.wp P a w K Q := by
  subst hm
  obtain ⟨v', w', hr, h2, h3, h4⟩ := run_append_ownF (P := P) w B t o.type e i (.int .u8 0) 1 1 hP.ht hP.hi hP.hz hP.hsize hP.hby rfl (by decide) v l.length (bcells l) hb.1 ⟨g, 0, none⟩ l'.length c (bcells l') (by simp [bcells_length]) hsrc (bcells_one l') (by unfold maxLen; omega) (by omega) hb.2.2
  unfold Oper.wp execOp
  simp only [ho, resolve, invoke, builtin, Sem.run_bind, Sem.run_pure, Result.andThen_ok, List.map_toArray, List.map_cons, List.map_nil, hs, hx, hr]
  exact h v' w' (by unfold Buf; rw [List.length_append, bcells_append]; exact Lib.OwnBuf.grown hb h2 h3)
theorem wp_buf_text {K : Act → World → Prop} {u : TypeId} (s x : Operand) (ho : o.op = .call { callee := .builtin .append, args := #[s, x], argTypes := #[t, u] }) (hP : Byte8 P t e i) (hu : P.underlying u = some .string) (hs : a.eval s = v) (hb : Buf B e W0 w l v)
    (str : ByteArray) (hx : a.eval x = .string str) (hlen : l.length + str.size ≤ 140737488355328)
    (h : ∀ v' w', Buf B e W0 w' (l ++ str.data.toList) v' → K (a.put o.dst v') w') : o.wp P a w K Q := by
  obtain ⟨v', w', hr, h2, h3, h4⟩ := Lib.run_append_own_stringF (P := P) w B t u o.type e i hP.ht hu hP.hi hP.hz hP.hsize hP.hby v l.length (bcells l) hb.1 str (by unfold maxLen; omega) hlen hb.2.2
  unfold Oper.wp execOp
  simp only [ho, resolve, invoke, builtin, Sem.run_bind, Sem.run_pure, Result.andThen_ok, List.map_toArray, List.map_cons, List.map_nil, hs, hx, hr]
  refine h v' w' ?_
  unfold Buf
  rw [List.length_append, bcells_append, show str.data.toList.length = str.size by simp]
  exact Lib.OwnBuf.grown hb h2 h3

theorem wpList_buf_made {ops : Array Oper} {rest : List Oper} (hgd : o.guard = none) (s x : Operand) (ho : o.op = .call { callee := .builtin .append, args := #[s, x], argTypes := #[t, t] }) (hP : Byte8 P t e i) (hs : a.eval s = v) (hb : Buf B e W0 w l v)
    (l' : List UInt8) (g m c : Nat) (hx : a.eval x = .slice (some ⟨g, 0, none⟩) m c) (hm : m = l'.length) (hsrc : Src w g l') (hlen : l.length + l'.length ≤ 140737488355328)
    (h : ∀ v' w', Buf B e W0 w' (l ++ l') v' → wpList P ops Q rest (a.put o.dst v') w') : wpList P ops Q (o :: rest) a w :=
  wpList_plain hgd fun _ hK => wp_buf_made s x ho hP hs hb l' g m c hx hm hsrc hlen fun v' w' h' => hK _ _ (h v' w' h')
theorem wpList_buf_text {ops : Array Oper} {rest : List Oper} {u : TypeId} (hgd : o.guard = none) (s x : Operand) (ho : o.op = .call { callee := .builtin .append, args := #[s, x], argTypes := #[t, u] }) (hP : Byte8 P t e i) (hu : P.underlying u = some .string) (hs : a.eval s = v) (hb : Buf B e W0 w l v)
    (str : ByteArray) (hx : a.eval x = .string str) (hlen : l.length + str.size ≤ 140737488355328)
    (h : ∀ v' w', Buf B e W0 w' (l ++ str.data.toList) v' → wpList P ops Q rest (a.put o.dst v') w') : wpList P ops Q (o :: rest) a w :=
  wpList_plain hgd fun _ hK => wp_buf_text s x ho hP hu hs hb str hx hlen fun v' w' h' => hK _ _ (h v' w' h')
theorem step_buf_made {ops : Array Oper} {K : Act → World → Prop} {E : Prop} (hgd : o.guard = none) (s x : Operand) (ho : o.op = .call { callee := .builtin .append, args := #[s, x], argTypes := #[t, t] }) (hP : Byte8 P t e i) (hs : a.eval s = v) (hb : Buf B e W0 w l v)
    (l' : List UInt8) (g m c : Nat) (hx : a.eval x = .slice (some ⟨g, 0, none⟩) m c) (hm : m = l'.length) (hsrc : Src w g l') (hlen : l.length + l'.length ≤ 140737488355328)
    (h : ∀ v' w', Buf B e W0 w' (l ++ l') v' → K (a.put o.dst v') w') : if Region.wanted o (yielded ops a.tmps) = true then Oper.wp P o a w K Q else E := by
  rw [if_pos (by simp [Region.wanted, hgd])]
  exact wp_buf_made s x ho hP hs hb l' g m c hx hm hsrc hlen h
theorem step_buf_text {ops : Array Oper} {K : Act → World → Prop} {E : Prop} {u : TypeId} (hgd : o.guard = none) (s x : Operand) (ho : o.op = .call { callee := .builtin .append, args := #[s, x], argTypes := #[t, u] }) (hP : Byte8 P t e i) (hu : P.underlying u = some .string) (hs : a.eval s = v) (hb : Buf B e W0 w l v)
    (str : ByteArray) (hx : a.eval x = .string str) (hlen : l.length + str.size ≤ 140737488355328)
    (h : ∀ v' w', Buf B e W0 w' (l ++ str.data.toList) v' → K (a.put o.dst v') w') : if Region.wanted o (yielded ops a.tmps) = true then Oper.wp P o a w K Q else E := by
  rw [if_pos (by simp [Region.wanted, hgd])]
  exact wp_buf_text s x ho hP hu hs hb str hx hlen h
end
end Go.Proofs.YtdjegpmjhfbamaaDoor
