/-
  append of bytes that came in (nil or not) to a row of the call's own; what such a row reads as. No condition.
-/
import Derived.Test.YtihcegakghmdfaaDoorMgBuf
import Derived.Test.YtihcegakghmdfaaDoorMgRef1
import Derived.Laws.AppendOwnNone
import Derived.Laws.OwnMore
namespace Go.Proofs.YtihcegakghmdfaaDoor
open Go.RowKit Go.Proofs

/-- append of a slice, nil or not, to a slice that the call owns. -/
theorem wpList_append_own_any {P : Program} (w : World) {ops : Array Oper} {rest : List Oper} {o : Oper} {a : Act} {Q : Exit → Act → World → Prop} (hgd : o.guard = none) (s x : Operand) (t : TypeId)
    (ho : o.op = .call { callee := .builtin .append, args := #[s, x], argTypes := #[t, t] })
    (base : Nat) (e : TypeId) (i : TypeInfo) (z : Value) (size bytes : Nat) (ht : P.underlying t = some (.slice e)) (hi : P.info? e = some i) (hz : i.zero = some z)
    (hsize : i.size = size) (hby : i.bytes = bytes) (hzs : z.cells.size = size) (hsz : 0 < size)
    (v : Value) (n : Nat) (xs : List Value) (hs : a.eval s = v) (hown : w.ownsRow base e size v n xs)
    (ao : Option Addr) (m c : Nat) (news : List Value) (hx : a.eval x = .slice ao m c) (hl : news.length = m * size) (hnone : ao = none → m = 0 ∧ c = 0) (hnews : ∀ ad, ao = some ad → ∀ j u, news[j]? = some u → w.cell? (ad.add j) = some u) (h1 : ∀ u ∈ news, u.oneCell' = true)
    (h63 : n + m ≤ maxLen) (hbytes : (n + m) * bytes ≤ 140737488355328) (hbase : base ≤ w.heap.size)
    (h : ∀ v' w', w'.ownsRow base e size v' (n + m) (xs ++ news) → w.grownBy w' v.ownBlock → wpList P ops Q rest (a.put o.dst v') w') : wpList P ops Q (o :: rest) a w := by
  cases ao with
  | none =>
    obtain ⟨rfl, rfl⟩ := hnone rfl
    obtain rfl : news = [] := List.eq_nil_of_length_eq_zero (by simpa using hl)
    refine wpList_append_own_none hgd s x t ho base e i size ht hi v n xs hs hown hx ?_
    exact h v w (by simpa using hown) ⟨rfl, rfl, rfl, Nat.le_refl _, fun _ _ _ => rfl⟩
  | some ad => exact wpList_append_own w hgd s x t ho base e i z size bytes ht hi hz hsize hby hzs hsz v n xs hs hown ad m c news hx hl (hnews ad rfl) h1 h63 hbytes hbase fun v' w' h2 h3 _ => h v' w' h2 h3
theorem addr_at (b off n : Nat) : (⟨b, off, none⟩ : Addr).add n = ⟨b, off + n, none⟩ := by
  unfold Addr.add
  split
  · rename_i h; rw [h]; rfl
  · rfl
theorem own_cap {w : World} {B e g n cap k : Nat} {xs : List Value} (h : w.ownsRow B e 1 (.slice (some ⟨g, 0, none⟩) n cap) k xs) : n ≤ cap ∧ cap ≤ 9223372036854775807 := by
  rcases h.2 with ⟨h1, _⟩ | ⟨g', cap', cur, hv, _, _, hc, hm, _⟩
  · cases h1
  · injection hv with _ e2 e3
    subst e2 e3
    exact ⟨hc, by unfold maxLen at hm; omega⟩
/-- The first bytes of a row of the call's own. -/
theorem own_bytes {w : World} {B e g n cap m : Nat} {l : List UInt8} (h : w.ownsRow B e 1 (.slice (some ⟨g, 0, none⟩) n cap) n (bcells l)) (hm : m ≤ l.length) (hn : n = l.length) : BytesAt w (Now w) (l.take m) (.slice (some ⟨g, 0, none⟩) m cap) := by
  have hc := own_cap h
  have hl : (l.take m).length = m := by rw [List.length_take]; omega
  refine ⟨_, _, by rw [hl], by rw [hl]; omega, hc.2, .inr ⟨g, 0, rfl, (h.lt g rfl).2, fun j x hx => ?_⟩⟩
  have hj : j < m := by rw [← hl]; exact (List.getElem?_eq_some_iff.1 hx).1
  have h1 := h.cellAt j (by omega)
  rw [List.getElem?_take, if_pos hj] at hx
  rw [Nat.zero_add, h1]
  simp [bcells, hx]
theorem bytes_pre {w : World} {S : Nat → Prop} {l : List UInt8} {a : Option Addr} {n cap m : Nat} (h : BytesAt w S l (.slice a n cap)) (hm : m ≤ l.length) : BytesAt w S (l.take m) (.slice a m cap) := by
  obtain ⟨a', cap', e, h1, h2, h3⟩ := h
  injection e with e1 e2 e3
  subst e1 e3
  have hl : (l.take m).length = m := by rw [List.length_take]; omega
  refine ⟨_, _, by rw [hl], by rw [hl]; omega, h2, ?_⟩
  rcases h3 with h0 | ⟨b, off, h4, h5, h6⟩
  · subst h0; simp
  · refine .inr ⟨b, off, h4, h5, fun j c hj => ?_⟩
    have hjm : j < m := by rw [← hl]; exact (List.getElem?_eq_some_iff.1 hj).1
    rw [List.getElem?_take, if_pos hjm] at hj
    exact h6 j c hj
end Go.Proofs.YtihcegakghmdfaaDoor
