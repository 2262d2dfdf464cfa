/-
  Two rows that a call builds side by side: bytes, and values that lead to old memory. No condition.
  Walk: the law CodecRows.
-/
import Derived.Test.YtihcegakghmdfaaDoorMgHel
import Derived.Test.YtihcegakghmdfaaDoorMgBuf
import Derived.Test.YtihcegakghmdfaaDoorMgVal10
import Derived.Test.YtihcegakghmdfaaDoorMgRep1
import Derived.Test.YtihcegakghmdfaaDoorMgApp
import Derived.Test.YtihcegakghmdfaaDoorMgOpenV
namespace Go.Proofs.YtihcegakghmdfaaDoor
open Go.RowKit Go.Proofs

/-- append of one value to a slice of the call's own, whose values lead to old memory: and where the row lies then. -/
theorem wpList_append_val2 {P : Program} (w : World) {ops : Array Oper} {rest : List Oper} {o : Oper} {a : Act} {Q : Exit → Act → World → Prop} (hgd : o.guard = none) (s x : Operand) (t : TypeId)
    (ho : o.op = .call { callee := .builtin .append, args := #[s, x], argTypes := #[t, t] })
    (base e : Nat) (i : TypeInfo) (z : Value) (ht : P.underlying t = some (.slice e)) (hi : P.info? e = some i) (hz : i.zero = some z) (hsize : i.size = 5) (hby : i.bytes = 80) (hzs : z.cells.size = 5)
    (S : Nat → Prop) (xs : List PVal) (v : Value) (hs : a.eval s = v) (hown : OwnL w S base e xs v)
    (ad : Addr) (c : Nat) (cs : List Value) (X : PVal) (hx : a.eval x = .slice (some ad) 1 c) (hcs : ∀ j u, cs[j]? = some u → w.cell? (ad.add j) = some u) (hX : Rd w S X cs)
    (hlim : xs.length + 1 ≤ 1759218604441) (hS : ∀ b, S b → b < base) (hbase : base ≤ w.heap.size)
    (h : ∀ v' w', OwnL w' S base e (xs ++ [X]) v' → w.grownBy w' v.ownBlock → (∀ b, v'.ownBlock = some b → v.ownBlock = some b ∨ w.heap.size ≤ b) → wpList P ops Q rest (a.put o.dst v') w') : wpList P ops Q (o :: rest) a w := by
  refine wpList_plain hgd fun K hK => ?_
  obtain ⟨css, hlen, hor, hne, hr⟩ := hown
  obtain ⟨v', w', hrun, h2, h3, h4, h5⟩ := run_append_apart (P := P) w base t o.type e i z 5 80 ht hi hz hsize hby hzs (by omega) v xs.length css.flatten hor ad 1 c cs (by rw [hX.len]) hcs hX.one (by unfold maxLen; omega) (by omega) hbase
  have hlow : ∀ b, b < base → w'.heap[b]? = w.heap[b]? := fun b hb => h3.block b (by omega) (fun he => by
    have := (hor.lt b he.symm).1; omega)
  unfold Oper.wp execOp
  simp only [ho, resolve, invoke, builtin, Sem.run_bind, Sem.run_pure, Result.andThen_ok, List.map_toArray, List.map_cons, List.map_nil, hs, hx, hrun]
  refine hK _ _ (h v' w' (OwnL.push hlen (fun b hb he => ?_) hr h2 (fun b hb => hlow b (hS b hb)) (fun _ h => h) (hX.keep (fun _ h => h) (fun b hb => hlow b (hS b hb)))) h3 h4)
  have := (h2.lt b he).1
  have := hS b hb
  omega

/-- Bytes and values so far, in rows of their own from block B on; the values lead to blocks below B. -/
structure Two (B : Nat) (W0 : World) (w : World) (l : List UInt8) (gs : List PVal) (va vg : Value) : Prop where
  bytes : Buf B 5 W0 w l va
  vals : OwnL w (fun b => b < B) B 25 gs vg
  apart : ∀ b, va.ownBlock = some b → vg.ownBlock ≠ some b
section
variable {B : Nat} {W0 w w' : World} {l : List UInt8} {gs : List PVal} {va vg : Value}
theorem Two.size (h : Two B W0 w l gs va vg) : B ≤ w.heap.size := h.bytes.2.2
theorem Two.later (h : Two B W0 w l gs va vg) (hb : Below w.heap.size w w') : Two B W0 w' l gs va vg :=
  ⟨h.bytes.later hb, h.vals.keep hb (fun b hb => Nat.lt_of_lt_of_le hb h.size), h.apart⟩
theorem Two.ext (h : Two B W0 w l gs va vg) {l' : List UInt8} {va' : Value} (hb : Buf B 5 W0 w' l' va') (he : Ext w w' va va') : Two B W0 w' l' gs va' vg := by
  refine ⟨hb, ?_, fun b hva hvg => ?_⟩
  · obtain ⟨css, hlen, hor, hne, hr⟩ := h.vals
    refine ⟨css, hlen, hor.kept he.grown ?_, hne, fun i x cs hx hc => (hr i x cs hx hc).keep (fun _ h => h) (fun b hb => he.grown.block b (Nat.lt_of_lt_of_le hb h.size) (fun e => ?_))⟩
    · by_cases h0 : vg.ownBlock = none
      · exact .inl h0
      · obtain ⟨b, hb⟩ := Option.ne_none_iff_exists'.1 h0
        exact .inr (fun e => h.apart b (e.symm.trans hb) hb)
    · have h1 : b < B := hb
      rcases h.bytes.1.2 with ⟨h2, _⟩ | ⟨g, cap, cur, fz, hv, h2, _⟩
      · subst h2; simp [Value.ownBlock] at e
      · subst hv; simp [Value.ownBlock] at e; omega
  · rcases he.own b hva with h1 | h1
    · exact h.apart b h1 hvg
    · have := h.vals.lt b hvg; omega
theorem Two.push (h : Two B W0 w l gs va vg) {gs' : List PVal} {vg' : Value} (hv : OwnL w' (fun b => b < B) B 25 gs' vg') (hg : w.grownBy w' vg.ownBlock) (hn : ∀ b, vg'.ownBlock = some b → vg.ownBlock = some b ∨ w.heap.size ≤ b) : Two B W0 w' l gs' va vg' := by
  have hge : ∀ k, vg.ownBlock = some k → B ≤ k := fun k hk => h.vals.ge k hk
  have hlta : ∀ b, va.ownBlock = some b → b < w.heap.size := fun b hb => (h.bytes.1.lt b hb).2
  refine ⟨⟨h.bytes.1.kept hg ?_, ?_, Nat.le_trans h.size hg.size⟩, hv, fun b hva hvg => ?_⟩
  · by_cases h0 : va.ownBlock = none
    · exact .inl h0
    · obtain ⟨b, hb⟩ := Option.ne_none_iff_exists'.1 h0
      exact .inr (fun e => h.apart b hb (e.symm.trans hb))
  · exact h.bytes.below.trans ⟨hg.os, hg.tape, hg.output, hg.size, fun k hk => hg.block k (Nat.lt_of_lt_of_le hk h.size) (fun e => by have := hge k e.symm; omega)⟩
  · rcases hn b hvg with h1 | h1
    · exact h.apart b hva h1
    · have := hlta b hva; omega
end
end Go.Proofs.YtihcegakghmdfaaDoor

namespace Go.Proofs.YtihcegakghmdfaaDoor
open Go.RowKit Go.Proofs

/-- The good ones. -/
def goodL (l : List PVal) : List PVal := l.filter fun x => decide (x.good = 0)
theorem goodL_succ {l : List PVal} {j : Nat} {x : PVal} (h : l[j]? = some x) : goodL (l.take (j + 1)) = goodL (l.take j) ++ (if x.good = 0 then [x] else []) := by
  unfold goodL
  rw [take_succ_of h, List.filter_append]
  by_cases hg : x.good = 0 <;> simp [hg]
theorem goodL_mem {l : List PVal} {x : PVal} (h : x ∈ goodL l) : x ∈ l ∧ x.good = 0 := by
  unfold goodL at h
  simpa using h
theorem encL_le {l : List PVal} (h : ∀ x ∈ l, x.fits) : (encL l).length ≤ massL l := by
  induction l with
  | nil => simp [encL]
  | cons x r ih =>
    have h1 := enc_le x (h x (by simp))
    have h2 := ih (fun y hy => h y (by simp [hy]))
    simp only [encL, massL, List.length_append]
    omega
theorem massL_good (l : List PVal) : massL (goodL l) ≤ massL l := by
  unfold goodL
  induction l with
  | nil => simp [massL]
  | cons x r ih =>
    by_cases hg : x.good = 0
    · simp only [List.filter_cons, hg, decide_true, if_true, massL]; omega
    · simp only [List.filter_cons, hg, decide_false, massL]; simp; omega

/-- What the region of the law's second loop reads: a box, and a value's cells. -/
def KrS (A b o : Nat) (v0 v1 v2 v3 v4 u3 u4 : Value) (x : World) : Prop :=
  x.cell? ⟨A, 0, none⟩ = some v0 ∧ x.cell? ⟨A, 1, none⟩ = some v1 ∧ x.cell? ⟨A, 2, none⟩ = some v2 ∧ x.cell? ⟨A, 3, none⟩ = some v3 ∧ x.cell? ⟨A, 4, none⟩ = some v4 ∧
    x.cell? ⟨b, o, none⟩ = some v0 ∧ x.cell? ⟨b, o + 1, none⟩ = some v1 ∧ x.cell? ⟨b, o + 2, none⟩ = some v2 ∧ x.cell? ⟨b, o + 3, none⟩ = some u3 ∧ x.cell? ⟨b, o + 4, none⟩ = some u4

set_option maxRecDepth 100000 in
set_option maxHeartbeats 8000000 in
theorem rows_calls (vs : List PVal) (hm : massL vs ≤ 1073741824) (E N : Int) (hE : I64 E) (hN : I64 N) {w : World} {la : Option Addr} {lc : Nat} (hT : Tabs w) (hL : RdL w (Now w) vs (.slice la vs.length lc)) :
    Calls Tryd.prog 13 #[.slice la vs.length lc, .int .i64 E, .int .i64 N] w fun e w' => e = .returned (.bool true) ∧ Below w.heap.size w w' := by
  have hT0 := hT
  have hT := hid (fun w' hb => Tabs.stays w w' hT hb)
  have haw := hid awake3_calls
  have hll : vs.length ≤ 1759218604441 := by
    obtain ⟨_, _, _, hv, _, h, _⟩ := hL
    exact h.2
  have hv := hid (fun la c' w h => vast_calls vs la c' w h hll)
  have hL0 := hid hL
  cases hvb : vast vs with
  | true =>
    rw [hvb] at hv
    clear hL hvb
    go_enter Tryd.func13, Tryd.ntmps13
    go_wp2_with fail
    refine (haw.out _ hT0).mono ?_
    rintro e w1 ⟨rfl, h1⟩
    go_wp2_with fail
    refine (hv.out _ _ _ (hL0.out.later h1)).mono ?_
    rintro e w2 ⟨rfl, h2⟩
    go_wp2_with fail
    go_ret
    exact ⟨rfl, h1.step h2⟩
  | false =>
    rw [hvb] at hv
    have hnl : ¬ 5000 ≤ nodesL vs := of_decide_eq_false hvb
    have hfits : ∀ x ∈ vs, x.fits := fun x hx => by
      obtain ⟨i, hi⟩ := List.getElem?_of_mem hx
      obtain ⟨_, _, _, _, _, _, hr⟩ := hL.at_ hi
      exact hr.fits
    have gx : Hid (∀ (i : Nat) (x : PVal), vs[i]? = some x → ∀ (w : World) (cs : List Value), Tabs w → Rd w (Now w) x cs → Calls Tryd.prog 26 #[.agg cs.toArray] w (Written x w)) := fun i x hx w cs hT h => by
      have hmem := List.mem_of_getElem? hx
      have h1 := nodes_mem hmem
      have h2 := mass_mem hmem
      have h3 := enc_le x h.fits
      exact put_calls x w cs (by omega) hT h (by omega)
    unfold Written at gx
    obtain ⟨i, hP⟩ := byte8
    obtain ⟨i0, hi, hz0, hz1, hz2⟩ := info_parts info52
    have hgl : Hid (∀ j, (encL (goodL (vs.take j))).length ≤ 1073741824) := fun j => by
      have h1 := encL_le (l := goodL (vs.take j)) (fun x hx => hfits x (List.mem_of_mem_take (goodL_mem hx).1))
      have h2 := massL_good (vs.take j)
      have h3 : massL (vs.take j) ≤ massL vs := by
        have : ∀ (a b : List PVal), massL (a ++ b) = massL a + massL b := fun a b => by
          induction a with
          | nil => simp [massL]
          | cons x r ih => simp only [List.cons_append, massL, ih]; omega
        conv => rhs; rw [← List.take_append_drop j vs, this]
        omega
      omega
    have hfits' := hid hfits
    clear hL hvb hfits
    go_enter Tryd.func13, Tryd.ntmps13
    go_wp2_with fail
    refine (haw.out _ hT0).mono ?_
    rintro e w1 ⟨rfl, h1⟩
    go_wp2_with fail
    refine (hv.out _ _ _ (hL0.out.later h1)).mono ?_
    rintro e w2 ⟨rfl, h2⟩
    have D := hid (h1.step h2)
    have hB0 := hid (h1.step h2).size
    clear h1 h2 haw hv
    go_wp2_with fail
    go_loopg [7, 8, 9, 10, 11] vs.length (fun g a d i b f wr => ∃ (j : Nat) (va vg : Value), g + j = vs.length ∧ i = .int .i64 j ∧ va = a ∧ vg = d ∧ Two w2.heap.size w2 wr (encL (goodL (vs.take j))) (goodL (vs.take j)) va vg)
    case atStart => exact ⟨0, _, _, by omega, rfl, rfl, rfl, Buf.nil (Below.refl _ _) (Nat.le_refl _), OwnL.nil _ _ _ _, fun b h => by simp [Value.ownBlock] at h⟩
    case round =>
      obtain ⟨j, va, vg, hj, rfl, rfl, rfl, h2⟩ := hrel
      have DB := hid (D.out.step h2.bytes.below)
      by_cases hlt : j < vs.length
      · obtain ⟨x, hx⟩ : ∃ x, vs[j]? = some x := ⟨_, List.getElem?_eq_getElem hlt⟩
        obtain ⟨b, off, cs, rfl, hbw, hc, hr⟩ := (hL0.out.keep (S' := fun b => b < w.heap.size) (fun b h => h) (fun b h => DB.out.block b h)).at_ hx
        have hgx := hid (gx.out j x hx)
        have hgs := goodL_succ hx
        have hgl1 := hgl.out (j + 1)
        rw [hgs] at hgl1
        have hxe : x.enc ≠ [] := by cases x; simp [PVal.enc]
        have hgn : (goodL (vs.take j)).length ≤ j := Nat.le_trans (List.length_filter_le _ _) (by rw [List.length_take]; omega)
        replace hgn := hid hgn
        obtain ⟨xk, xn, xs, xl, xfn, xfv⟩ := x
        obtain ⟨xa, xc, za, zc, rfl, _⟩ := hr.inv
        have c0 := hc 0 _ rfl
        have c1 := hc 1 _ rfl
        have c2 := hc 2 _ rfl
        have c3 := hc 3 _ rfl
        have c4 := hc 4 _ rfl
        rw [Nat.add_zero] at c0
        replace h2 := hid h2
        replace hr := hid hr
        replace hgs := hid hgs
        replace hxe := hid hxe
        replace hgl1 := hid hgl1
        have hc' := hid hc
        clear hc
        go_wp2_with fail
        clear c0 c1 c2 c3 c4
        refine (hgx.out _ _ (hT.out _ DB.out) (hr.out.keep (S' := Now wr) (fun b h => Nat.lt_of_lt_of_le h DB.out.size) (fun _ _ => rfl))).mono ?_
        rintro e w5 ⟨v5, rfl, hb5⟩
        have T5 := hid (h2.out.later hb5.below)
        clear h2
        by_cases hG : (PVal.mk xk xn xs xl xfn xfv).good = 0
        · rw [if_pos hG] at hb5
          have hgs2 := hgs.out
          have hgl2 := hgl1.out
          rw [if_pos hG] at hgs2 hgl2
          rw [encL_append, List.length_append] at hgl2
          simp only [encL, List.append_nil] at hgl2
          replace hgs2 := hid hgs2
          obtain ⟨pg, pc, rfl, _⟩ := hb5.form hxe.out
          have hsr := hid hb5.src
          have hlen := hid hgl2
          rw [hG]
          clear hb5 hgl2 hgl1 hgs
          go_wp2_with (first
            | (at_builtin; (refine wpList_ext_bytes rfl (.tmp 42) (.tmp 43) rfl hP rfl T5.out.bytes (PVal.mk xk xn xs xl xfn xfv).enc pg _ pc rfl rfl hsr.out (by have := hlen.out; omega) ?_)
               intro a6 w6 hb6 he6
               have T6 := hid (T5.out.ext hb6 he6)
               have D6 := hid (D.out.step hb6.below)
               have hr6 : Hid (Rd w6 (fun b => b < w.heap.size) _ _) := hr.out.keep (fun b h => h) (fun b h => (D6.out.block b h).trans (DB.out.block b h).symm)
               have k0 := ((D6.out.cell (p := ⟨b, off + j * 5, none⟩) hbw).trans (DB.out.cell (p := ⟨b, off + j * 5, none⟩) hbw).symm).trans (hc'.out 0 _ rfl)
               have k1 := ((D6.out.cell (p := ⟨b, off + j * 5 + 1, none⟩) hbw).trans (DB.out.cell (p := ⟨b, off + j * 5 + 1, none⟩) hbw).symm).trans (hc'.out 1 _ rfl)
               have k2 := ((D6.out.cell (p := ⟨b, off + j * 5 + 2, none⟩) hbw).trans (DB.out.cell (p := ⟨b, off + j * 5 + 2, none⟩) hbw).symm).trans (hc'.out 2 _ rfl)
               have k3 := ((D6.out.cell (p := ⟨b, off + j * 5 + 3, none⟩) hbw).trans (DB.out.cell (p := ⟨b, off + j * 5 + 3, none⟩) hbw).symm).trans (hc'.out 3 _ rfl)
               have k4 := ((D6.out.cell (p := ⟨b, off + j * 5 + 4, none⟩) hbw).trans (DB.out.cell (p := ⟨b, off + j * 5 + 4, none⟩) hbw).symm).trans (hc'.out 4 _ rfl)
               have T7 := hid (T6.out.later (below_new w6 (.cells #[.int .i64 xk, .int .i64 xn, .string xs, .slice xa xl.length xc, .slice za xfv.length zc] 25)))
               have hX7 : Hid (Rd (w6.alloc (.cells #[.int .i64 xk, .int .i64 xn, .string xs, .slice xa xl.length xc, .slice za xfv.length zc] 25)) (fun b => b < w2.heap.size) (PVal.mk xk xn xs xl xfn xfv) [.int .i64 xk, .int .i64 xn, .string xs, .slice xa xl.length xc, .slice za xfv.length zc]) := hr6.out.keep (fun b h => Nat.lt_of_lt_of_le h hB0.out) (fun b h => (below_new w6 _).block b (Nat.lt_of_lt_of_le h D6.out.size))
               clear hb6 he6 T5)
            | (at_builtin; (refine wpList_append_val2 _ rfl (.tmp 45) (.tmp 50) 22 rfl w2.heap.size 25 i0 _ Tryd.underlying22 hi hz0 hz1 hz2 rfl (fun b => b < w2.heap.size) (goodL (vs.take j)) vg rfl T7.out.vals ⟨w6.heap.size, 0, none⟩ 1 [.int .i64 xk, .int .i64 xn, .string xs, .slice xa xl.length xc, .slice za xfv.length zc] (PVal.mk xk xn xs xl xfn xfv) rfl (cells_new _ _ rfl _ _) hX7.out (by have := hgn.out; omega) (fun b h => h) T7.out.size ?_)
               intro d8 w8 ho8 hg8 hn8
               have T8 := hid (T7.out.push ho8 hg8 hn8)
               clear ho8 hg8 hn8 k0 k1 k2 k3 k4))
          go_roundg (vs.length - (j + 1))
          case measure => omega
          case rel => exact ⟨j + 1, a6, d8, by omega, by go_num, rfl, rfl, by rw [hgs2.out, encL_append]; simpa [encL] using T8.out⟩
        · have hG1 : ((PVal.mk xk xn xs xl xfn xfv).good == 0) = false := by simp [hG]
          have hgs2 := hgs.out
          rw [if_neg hG, List.append_nil] at hgs2
          replace hgs2 := hid hgs2
          clear hb5
          go_wp2_with fail
          go_roundg (vs.length - (j + 1))
          case measure => omega
          case rel => exact ⟨j + 1, va, vg, by omega, by go_num, rfl, rfl, by rw [hgs2.out]; exact T5.out⟩
      · have hj2 : vs.take j = vs := List.take_of_length_le (by omega)
        rw [hj2] at h2
        have hglA := hgl.out vs.length
        rw [List.take_of_length_le (Nat.le_refl _)] at hglA
        obtain ⟨gs, hgs⟩ : ∃ gs, gs = goodL vs := ⟨_, rfl⟩
        rw [← hgs] at h2 hglA
        have hgsl : gs.length ≤ vs.length := by rw [hgs]; exact List.length_filter_le _ _
        have hgsg : Hid (∀ x ∈ gs, x.good = 0 ∧ x.fits ∧ x.nodes ≤ 20000) := fun x hx => by
          rw [hgs] at hx
          obtain ⟨h1, h3⟩ := goodL_mem hx
          exact ⟨h3, hfits'.out x h1, by have := nodes_mem h1; omega⟩
        have hta : Hid (∀ (j : Nat) (x : PVal), gs[j]? = some x → takeAt (encL gs) ((encL (gs.take j)).length : Int) = .ok x x.enc.length ∧ (encL (gs.take j)).length + x.enc.length ≤ (encL gs).length ∧ encL (gs.take (j + 1)) = encL (gs.take j) ++ x.enc ∧ 0 < x.enc.length) := fun j x hx => by
          have hgx := hgsg.out x (List.mem_of_getElem? hx)
          have e1 : encL gs = encL (gs.take j) ++ encL (gs.drop j) := by rw [← encL_append, List.take_append_drop]
          have e2 : gs.drop j = x :: gs.drop (j + 1) := by
            obtain ⟨hj, rfl⟩ := List.getElem?_eq_some_iff.1 hx
            exact List.drop_eq_getElem_cons hj
          have e3 := congrArg List.length e1
          rw [List.length_append, e2] at e3
          simp only [encL, List.length_append] at e3
          refine ⟨?_, by omega, encL_succ hx, List.length_pos_iff.2 (by cases x; simp [PVal.enc])⟩
          unfold takeAt
          rw [if_neg (by omega), Int.toNat_natCast, e1, List.drop_left, e2]
          exact takeR_enc hgx.1 hgx.2.1 _
        obtain ⟨aa, ac, rfl, _, _⟩ := h2.bytes.any
        obtain ⟨ga, gc, rfl, _⟩ := h2.vals.form
        have hbA := hid h2.bytes.bytes
        have hrG : Hid (RdL wr (Now wr) gs (.slice ga gs.length gc)) := h2.vals.read (fun b hb => Nat.lt_of_lt_of_le hb h2.size) (fun b hb => h2.vals.lt b hb) (by omega)
        have hs3 := hid (fun (V : PVal) w cs cs' => same3_calls V V true (by simp) w cs cs')
        have hmE := and_mask E 255 (by decide)
        have hmN := and_mask N 65535 (by decide)
        obtain ⟨E', hE', hE2⟩ := hmE
        obtain ⟨N', hN', hN2⟩ := hmN
        clear hgl gx hj2 hgs h2 hfits'
        replace hglA := hid hglA
        go_wp2_with fail
        go_loopg [12, 13, 14, 15, 16] gs.length (fun g s12 s13 s14 s15 s16 wq => ∃ j : Nat, g + j = gs.length ∧ s13 = .int .i64 j ∧ s12 = .int .i64 (((encL (gs.take j)).length : Nat) : Int) ∧ Below wr.heap.size wr wq)
        case atStart => exact ⟨0, by omega, rfl, rfl, Below.refl _ _⟩
        case round =>
          clear hj hlt
          obtain ⟨j, hj, rfl, rfl, hq⟩ := hrel
          have DQ := hid (DB.out.step hq)
          by_cases hlt : j < gs.length
          · obtain ⟨x, hx⟩ : ∃ x, gs[j]? = some x := ⟨_, List.getElem?_eq_getElem hlt⟩
            obtain ⟨ht1, ht2, ht3, ht4⟩ := hta.out j x hx
            have hgl3 := hglA.out
            have htk := hid (take_calls (hbA.out.later hq) (hT.out _ DQ.out) (by omega) (((encL (gs.take j)).length : Nat) : Int) (by unfold I64; omega))
            rw [ht1] at htk
            have hqn : (encL (gs.take (j + 1))).length = (encL (gs.take j)).length + x.enc.length := by rw [ht3, List.length_append]
            replace hqn := hid hqn
            replace hq := hid hq
            have hlen4 := hid ht4
            obtain ⟨P, hP2⟩ : ∃ P, P = (encL (gs.take j)).length := ⟨_, rfl⟩
            rw [← hP2] at htk ht2 hqn ⊢
            obtain ⟨X, hX2⟩ : ∃ X, X = x.enc.length := ⟨_, rfl⟩
            clear ht1 ht3 hP2
            go_wp2_with fail
            refine htk.out.mono ?_
            rintro e w6 ⟨h6, cs6, rfl, hr6, _⟩
            rw [← hX2] at hqn hlen4 ht2 ⊢
            clear hX2 htk
            obtain ⟨xk, xn, xs, xl, xfn, xfv⟩ := x
            obtain ⟨ya, yc, ua, uc, rfl, _⟩ := hr6.inv
            replace hr6 : Hid (Rd w6 (Now w6) _ _) := hr6.keep (fun b hb => hb.2) (fun _ _ => rfl)
            go_upto_region 19 with fail
            obtain ⟨w7, hw7⟩ : ∃ w7, w7 = w6.alloc (.cells #[.int .i64 xk, .int .i64 xn, .string xs, .slice ya xl.length yc, .slice ua xfv.length uc] 25) := ⟨_, rfl⟩
            have h7 : Below w6.heap.size w6 w7 := by rw [hw7]; exact below_new _ _
            have r7 : Hid (w7.heap[w6.heap.size]? = some (.cells #[.int .i64 xk, .int .i64 xn, .string xs, .slice ya xl.length yc, .slice ua xfv.length uc] 25 (0, 0))) := by show _ = _; rw [hw7]; exact heap_alloc_new _ _
            rw [← hw7]
            clear hw7
            replace h6 := h6.step h7
            have K7 := hid (hq.out.step h6)
            replace DQ := hid (DQ.out.step h6)
            replace hr6 := hid (hr6.out.later h7)
            clear h6 h7
            obtain ⟨b, off, cs, rfl, hbw, hc, hr⟩ := (hrG.out.later K7.out).at_ hx
            obtain ⟨za, zc, oa, oc, rfl, _⟩ := hr.inv
            have hS : Hid (∀ y, Below w7.heap.size w7 y → KrS w6.heap.size b (off + j * 5) (.int .i64 xk) (.int .i64 xn) (.string xs) (.slice ya xl.length yc) (.slice ua xfv.length uc) (.slice za xl.length zc) (.slice oa xfv.length oc) y) := fun y h => by
              have h7 := (h.block _ (lt_of_block r7.out)).trans r7.out
              have hcc : ∀ (q : Nat) (v : Value), ([.int .i64 xk, .int .i64 xn, .string xs, .slice za xl.length zc, .slice oa xfv.length oc] : List Value)[q]? = some v → y.cell? ⟨b, off + j * 5 + q, none⟩ = some v := fun q v hv => (h.cell (p := ⟨b, off + j * 5 + q, none⟩) hbw).trans (hc q v hv)
              exact ⟨box_at h7 rfl, box_at h7 rfl, box_at h7 rfl, box_at h7 rfl, box_at h7 rfl, hcc 0 _ rfl, hcc 1 _ rfl, hcc 2 _ rfl, hcc 3 _ rfl, hcc 4 _ rfl⟩
            have hr' := hid hr
            clear hr hc
            have ge0 : ¬ ((P : Int) + (X : Int) ≤ (P : Int)) := by have := hlen4.out; omega
            go_cut [80] from 58 to 80 (fun c wx => c = .bool false ∧ Below w7.heap.size w7 wx)
            case first =>
              refine wp_region_T (KrS w6.heap.size b (off + j * 5) (.int .i64 xk) (.int .i64 xn) (.string xs) (.slice ya xl.length yc) (.slice ua xfv.length uc) (.slice za xl.length zc) (.slice oa xfv.length oc)) 16 (by kernel_rfl) ?_
              have hS0 := hS.out _ (Below.refl w7.heap.size w7).drew
              ((refine wpAnyT_take (i := 0) (v := ?_) rfl (by kernel_rfl) (by kernel_rfl) (by kernel_rfl) (by kernel_rfl) (by exact fun _ _ _ h => h) (Or.inl ⟨by kernel_rfl, ?_⟩) hS0 ?_; rotate_left 1; focus (intro w hSw; unfold KrS at hSw; (try dsimp only at hSw); go_simp; try with_reducible rfl); (try simp only [List.getElem_toArray, List.getElem_cons_zero, List.getElem_cons_succ, Act.put, List.setIfInBounds_toArray, List.set_cons_zero, List.set_cons_succ])); (refine wpAnyT_take (i := 1) (v := ?_) rfl (by kernel_rfl) (by kernel_rfl) (by kernel_rfl) (by kernel_rfl) (by exact fun _ _ _ h => h) (Or.inl ⟨by kernel_rfl, ?_⟩) hS0 ?_; rotate_left 1; focus (intro w hSw; unfold KrS at hSw; (try dsimp only at hSw); go_simp; try with_reducible rfl); (try simp only [List.getElem_toArray, List.getElem_cons_zero, List.getElem_cons_succ, Act.put, List.setIfInBounds_toArray, List.set_cons_zero, List.set_cons_succ])); (refine wpAnyT_take (i := 2) (v := ?_) rfl (by kernel_rfl) (by kernel_rfl) (by kernel_rfl) (by kernel_rfl) (by exact fun _ _ _ h => h) (Or.inl ⟨by kernel_rfl, ?_⟩) hS0 ?_; rotate_left 1; focus (intro w hSw; unfold KrS at hSw; (try dsimp only at hSw); go_simp; try with_reducible rfl); (try simp only [List.getElem_toArray, List.getElem_cons_zero, List.getElem_cons_succ, Act.put, List.setIfInBounds_toArray, List.set_cons_zero, List.set_cons_succ])); (refine wpAnyT_take (i := 3) (v := ?_) rfl (by kernel_rfl) (by kernel_rfl) (by kernel_rfl) (by kernel_rfl) (by exact fun _ _ _ h => h) (Or.inl ⟨by kernel_rfl, ?_⟩) hS0 ?_; rotate_left 1; focus (intro w hSw; unfold KrS at hSw; (try dsimp only at hSw); go_simp; try with_reducible rfl); (try simp only [List.getElem_toArray, List.getElem_cons_zero, List.getElem_cons_succ, Act.put, List.setIfInBounds_toArray, List.set_cons_zero, List.set_cons_succ])); (refine wpAnyT_take (i := 4) (v := ?_) rfl (by kernel_rfl) (by kernel_rfl) (by kernel_rfl) (by kernel_rfl) (by exact fun _ _ _ h => h) (Or.inl ⟨by kernel_rfl, ?_⟩) hS0 ?_; rotate_left 1; focus (intro w hSw; unfold KrS at hSw; (try dsimp only at hSw); go_simp; try with_reducible rfl); (try simp only [List.getElem_toArray, List.getElem_cons_zero, List.getElem_cons_succ, Act.put, List.setIfInBounds_toArray, List.set_cons_zero, List.set_cons_succ])); (refine wpAnyT_take (i := 5) (v := ?_) rfl (by kernel_rfl) (by kernel_rfl) (by kernel_rfl) (by kernel_rfl) (by exact fun _ _ _ h => h) (Or.inl ⟨by kernel_rfl, ?_⟩) hS0 ?_; rotate_left 1; focus (intro w hSw; unfold KrS at hSw; (try dsimp only at hSw); go_simp; try with_reducible rfl); (try simp only [List.getElem_toArray, List.getElem_cons_zero, List.getElem_cons_succ, Act.put, List.setIfInBounds_toArray, List.set_cons_zero, List.set_cons_succ])); (refine wpAnyT_take (i := 6) (v := ?_) rfl (by kernel_rfl) (by kernel_rfl) (by kernel_rfl) (by kernel_rfl) (by exact fun _ _ _ h => h) (Or.inl ⟨by kernel_rfl, ?_⟩) hS0 ?_; rotate_left 1; focus (intro w hSw; unfold KrS at hSw; (try dsimp only at hSw); go_simp; try with_reducible rfl); (try simp only [List.getElem_toArray, List.getElem_cons_zero, List.getElem_cons_succ, Act.put, List.setIfInBounds_toArray, List.set_cons_zero, List.set_cons_succ])); (refine wpAnyT_take (i := 7) (v := ?_) rfl (by kernel_rfl) (by kernel_rfl) (by kernel_rfl) (by kernel_rfl) (by exact fun _ _ _ h => h) (Or.inl ⟨by kernel_rfl, ?_⟩) hS0 ?_; rotate_left 1; focus (intro w hSw; unfold KrS at hSw; (try dsimp only at hSw); go_simp; try with_reducible rfl); (try simp only [List.getElem_toArray, List.getElem_cons_zero, List.getElem_cons_succ, Act.put, List.setIfInBounds_toArray, List.set_cons_zero, List.set_cons_succ])))
              refine wpAnyT_one (i := 8) (by kernel_rfl) rfl (fun K hK => ?_)
              go_simp
              refine (hs3.out _ _ _ _ (hr6.out.later (Below.refl _ _).drew) (hr'.out.later (Below.refl _ _).drew)).mono ?_
              rintro e w8 ⟨rfl, h8⟩
              have hE8 := hid ((Below.refl w7.heap.size w7).drew.step h8)
              have hS8 := hS.out _ hE8.out
              (refine hK.out _ _ (fun _ => hS8) (fun _ => ?_); clear hK K; (try simp only [Act.put, List.setIfInBounds_toArray, List.set_cons_zero, List.set_cons_succ]))
              ((refine wpAnyT_take (i := 9) (v := ?_) rfl (by kernel_rfl) (by kernel_rfl) (by kernel_rfl) (by kernel_rfl) (by exact fun _ _ _ h => h) (Or.inl ⟨by kernel_rfl, ?_⟩) hS8 ?_; rotate_left 1; focus (intro w hSw; unfold KrS at hSw; (try dsimp only at hSw); go_simp; try with_reducible rfl); (try simp only [List.getElem_toArray, List.getElem_cons_zero, List.getElem_cons_succ, Act.put, List.setIfInBounds_toArray, List.set_cons_zero, List.set_cons_succ])); (refine wpAnyT_take (i := 10) (v := ?_) rfl (by kernel_rfl) (by kernel_rfl) (by kernel_rfl) (by kernel_rfl) (by exact fun _ _ _ h => h) (Or.inl ⟨by kernel_rfl, ?_⟩) hS8 ?_; rotate_left 1; focus (intro w hSw; unfold KrS at hSw; (try dsimp only at hSw); go_simp; try with_reducible rfl); (try simp only [List.getElem_toArray, List.getElem_cons_zero, List.getElem_cons_succ, Act.put, List.setIfInBounds_toArray, List.set_cons_zero, List.set_cons_succ])); (refine wpAnyT_take (i := 11) (v := ?_) rfl (by kernel_rfl) (by kernel_rfl) (by kernel_rfl) (by kernel_rfl) (by exact fun _ _ _ h => h) (Or.inl ⟨by kernel_rfl, ?_⟩) hS8 ?_; rotate_left 1; focus (intro w hSw; unfold KrS at hSw; (try dsimp only at hSw); go_simp; try with_reducible rfl); (try simp only [List.getElem_toArray, List.getElem_cons_zero, List.getElem_cons_succ, Act.put, List.setIfInBounds_toArray, List.set_cons_zero, List.set_cons_succ])); (refine wpAnyT_take (i := 12) (v := ?_) rfl (by kernel_rfl) (by kernel_rfl) (by kernel_rfl) (by kernel_rfl) (by exact fun _ _ _ h => h) (Or.inl ⟨by kernel_rfl, ?_⟩) hS8 ?_; rotate_left 1; focus (intro w hSw; unfold KrS at hSw; (try dsimp only at hSw); go_simp; try with_reducible rfl); (try simp only [List.getElem_toArray, List.getElem_cons_zero, List.getElem_cons_succ, Act.put, List.setIfInBounds_toArray, List.set_cons_zero, List.set_cons_succ])); (refine wpAnyT_take (i := 13) (v := ?_) rfl (by kernel_rfl) (by kernel_rfl) (by kernel_rfl) (by kernel_rfl) (by exact fun _ _ _ h => h) (Or.inl ⟨by kernel_rfl, ?_⟩) hS8 ?_; rotate_left 1; focus (intro w hSw; unfold KrS at hSw; (try dsimp only at hSw); go_simp; try with_reducible rfl); (try simp only [List.getElem_toArray, List.getElem_cons_zero, List.getElem_cons_succ, Act.put, List.setIfInBounds_toArray, List.set_cons_zero, List.set_cons_succ])); (refine wpAnyT_take (i := 14) (v := ?_) rfl (by kernel_rfl) (by kernel_rfl) (by kernel_rfl) (by kernel_rfl) (by exact fun _ _ _ h => h) (Or.inl ⟨by kernel_rfl, ?_⟩) hS8 ?_; rotate_left 1; focus (intro w hSw; unfold KrS at hSw; (try dsimp only at hSw); go_simp; try with_reducible rfl); (try simp only [List.getElem_toArray, List.getElem_cons_zero, List.getElem_cons_succ, Act.put, List.setIfInBounds_toArray, List.set_cons_zero, List.set_cons_succ])); (refine wpAnyT_take (i := 15) (v := ?_) rfl (by kernel_rfl) (by kernel_rfl) (by kernel_rfl) (by kernel_rfl) (by exact fun _ _ _ h => h) (Or.inl ⟨by kernel_rfl, ?_⟩) hS8 ?_; rotate_left 1; focus (intro w hSw; unfold KrS at hSw; (try dsimp only at hSw); go_simp; try with_reducible rfl); (try simp only [List.getElem_toArray, List.getElem_cons_zero, List.getElem_cons_succ, Act.put, List.setIfInBounds_toArray, List.set_cons_zero, List.set_cons_succ])))
              refine wpAnyT_done (by kernel_rfl) ?_ _
              go_wp2_with fail
              go_meet
              exact ⟨by kernel_rfl, hE8.out⟩
            case rest =>
              obtain ⟨rfl, hN⟩ := hcut
              have K8 := hid (K7.out.step hN)
              clear hN hS hr' hr6
              go_wp2_with fail
              go_roundg (gs.length - (j + 1))
              case measure => omega
              case rel => exact ⟨j + 1, by omega, by go_num, by rw [hqn.out]; go_num, K8.out⟩
          · have hj3 : gs.take j = gs := List.take_of_length_le (by omega)
            rw [hj3]
            have hE3 : bits .and .i64 E 255 = (E' : Int) := hE'
            have hN3 : bits .and .i64 N 65535 = (N' : Int) := hN'
            have hgl3 := hglA.out
            have hrG2 := hid (hrG.out.later hq)
            clear hE' hN' hj3 hta hs3 hbA hrG hq
            replace hgsl := hid hgsl
            go_upto_region 23 with fail
            obtain ⟨w7, hw7⟩ : ∃ w7, w7 = wr.alloc (.cells #[.int .i64 (E' : Int), .int .i64 (N' : Int), .slice ga gs.length gc] 82) := ⟨_, rfl⟩
            have h7 : Below wr.heap.size wr w7 := by rw [hw7]; exact below_new _ _
            have r7 : Hid (w7.heap[wr.heap.size]? = some (.cells #[.int .i64 (E' : Int), .int .i64 (N' : Int), .slice ga gs.length gc] 82 (0, 0))) := by show _ = _; rw [hw7]; exact heap_alloc_new _ _
            rw [← hw7]
            clear hw7 hE3 hN3
            replace DQ := hid (DQ.out.step h7)
            have hrG3 := hid (hrG2.out.later h7)
            clear h7 hrG2
            have d0 := box_at (j := 0) r7.out rfl
            have d1 := box_at (j := 1) r7.out rfl
            have d2 := box_at (j := 2) r7.out rfl
            go_wp2_with fail
            clear d0 d1 d2
            by_cases h64 : 64 < gs.length
            · refine (putReply_many (E' : Int) (N' : Int) (by omega) (by omega) gs.length h64 ga gc w7).mono ?_
              rintro e w8 ⟨rfl, h8⟩
              have hlt64 : (64 : Int) < (gs.length : Int) := by omega
              go_wp2_with fail
              go_ret
              exact ⟨by simp, DQ.out.step h8⟩
            · have hmG : (encL gs).length ≤ 17592186044416 := by omega
              have hT7 := hT.out _ DQ.out
              refine (putReply_calls E' N' hE2 (by omega) gs (fun x hx => ⟨(hgsg.out x hx).1, (hgsg.out x hx).2.2⟩) (by omega) hmG hT7 hrG3.out).mono ?_
              rintro e w8 ⟨v8, rfl, hb8⟩
              have hnlt64 : ¬ (64 : Int) < (gs.length : Int) := by omega
              replace r7 := hid ((hb8.below.block _ (lt_of_block r7.out)).trans r7.out)
              replace DQ := hid (DQ.out.step hb8.below)
              have hrG4 := hid (hrG3.out.later hb8.below)
              have hrl : (repB E' N' gs).length ≤ 140737488355328 := by
                have d1 := digits_le E' (by omega)
                have d2 := digits_le N' (by omega)
                have d3 := digits_le gs.length (by omega)
                rw [repB]
                simp only [List.length_append, varint_length]
                omega
              have hgr := hid (getReply_calls E' N' hE2 (by omega) gs (fun x hx => ⟨(hgsg.out x hx).1, (hgsg.out x hx).2.1⟩) (by omega) hb8.bytes (hT.out _ DQ.out) hrl)
              clear hb8 hrG3
              go_wp2_with fail
              refine hgr.out.mono ?_
              rintro e w9 ⟨ya, yc, rfl, h9, hr9⟩
              go_upto_region 27 with fail
              obtain ⟨wa, hwa⟩ : ∃ wa, wa = w9.alloc (.cells #[.int .i64 (E' : Int), .int .i64 (N' : Int), .slice ya gs.length yc] 82) := ⟨_, rfl⟩
              have ha : Below w9.heap.size w9 wa := by rw [hwa]; exact below_new _ _
              have ra : Hid (wa.heap[w9.heap.size]? = some (.cells #[.int .i64 (E' : Int), .int .i64 (N' : Int), .slice ya gs.length yc] 82 (0, 0))) := by show _ = _; rw [hwa]; exact heap_alloc_new _ _
              rw [← hwa]
              clear hwa
              have h9a := h9.step ha
              replace r7 := hid ((h9a.block _ (lt_of_block r7.out)).trans r7.out)
              replace DQ := hid (DQ.out.step h9a)
              have hrp := hid (rreply_calls (E' : Int) (N' : Int) gs (hr9.later ha) (hrG4.out.later h9a))
              clear h9 ha h9a hr9
              have d0 := box_at (j := 0) r7.out rfl
              have d1 := box_at (j := 1) r7.out rfl
              have d2 := box_at (j := 2) r7.out rfl
              have f0 := box_at (j := 0) ra.out rfl
              have f1 := box_at (j := 1) ra.out rfl
              have f2 := box_at (j := 2) ra.out rfl
              go_wp2_with fail
              refine hrp.out.mono ?_
              rintro e wb ⟨rfl, hb⟩
              go_wp2_with fail
              go_ret
              exact ⟨by simp, DQ.out.step hb⟩
theorem rows_card (vs : List PVal) (hm : massL vs ≤ 1073741824) {E N : Int} (hE : (Lit.int .i64 E).wf = true) (hN : (Lit.int .i64 N).wf = true) {w : World} {la : Option Addr} {lc : Nat} (hT : Tabs w) (hL : RdL w (Now w) vs (.slice la vs.length lc)) :
    Calls Tryd.prog 13 #[.slice la vs.length lc, .int .i64 E, .int .i64 N] w fun e w' => e = .returned (.bool true) ∧ Below w.heap.size w w' := by
  simp only [Lit.wf, Bool.and_eq_true, decide_eq_true_eq] at hE hN
  exact rows_calls vs hm E N hE hN hT hL
end Go.Proofs.YtihcegakghmdfaaDoor
