/-
  Walks: the reference's Join, After.
  Walk: the reference's untext.
-/
import Derived.Test.YtihcegakghmdfaaDoorMgKr1
import Derived.Test.YtihcegakghmdfaaDoorMgKey10
import Derived.Test.YtihcegakghmdfaaDoorMgRef6
import Derived.Test.YtihcegakghmdfaaDoorMgKeyP
namespace Go.Proofs.YtihcegakghmdfaaDoor
open Go.RowKit Go.Proofs

theorem rgood_mass (V : PVal) (hm : V.mass ≤ 1073741824) (w : World) (cs : List Value) (hV : Rd w (Now w) V cs) :
    Calls Tryd.prog 20 #[.agg cs.toArray] w fun e w' => e = .returned (.int .i64 V.good) ∧ Below w.heap.size w w' :=
  rgood_big V (by have := nodes_mass V; omega) hm w cs hV

set_option maxRecDepth 100000 in
set_option maxHeartbeats 2000000 in
theorem rjoin5_calls (xs : List PVal) (hm : massL xs ≤ 1073741824) {w : World} {la : Option Addr} {lc : Nat} (hL : RdL w (Now w) xs (.slice la xs.length lc)) :
    Calls Tryd.prog 46 #[.slice la xs.length lc] w fun e w' => ∃ v, e = .returned (.tuple #[v, .int .i64 (badI xs)]) ∧ Below w.heap.size w w' ∧ BytesAt w' (Now w') (if badI xs = 0 then keysP xs else []) v := by
  obtain ⟨i, hP⟩ := byte8
  have hll : xs.length ≤ 1759218604441 := by
    obtain ⟨_, _, _, hv, _, h, _⟩ := hL
    exact h.2
  have hL0 := hid hL
  have hkl : Hid (∀ j x, xs[j]? = some x → (keysP (xs.take j)).length + x.key.length ≤ 2147483648) := fun j x hx => by
    have h1 := keysP_take_le xs (j + 1)
    rw [keysP_succ hx, List.length_append] at h1
    have := keysP_le xs
    omega
  have hm' : Hid (∀ x ∈ xs, x.mass ≤ 1073741824) := fun x hx => by have := mass_mem hx; omega
  obtain ⟨J, hJ⟩ : ∃ J, badI xs = J := ⟨_, rfl⟩
  obtain ⟨L, hLL⟩ : ∃ L, (if J = 0 then keysP xs else []) = L := ⟨_, rfl⟩
  rw [hJ, hLL]
  replace hJ := hid hJ
  replace hLL := hid hLL
  clear hL hm
  go_enter Tryd.func46, Tryd.ntmps46
  go_wp2_with fail
  go_loopg [4, 5] xs.length (fun gh s4 s5 wr => ∃ (j : Nat) (v : Value), gh + j = xs.length ∧ s5 = .int .i64 j ∧ v = s4 ∧ Hid (∀ y ∈ xs.take j, y.good = 0) ∧ Hid (Buf w.heap.size 5 w wr (keysP (xs.take j)) v))
  case atStart => exact ⟨0, _, by omega, rfl, rfl, fun y hy => by simp at hy, Buf.nil (Below.refl _ _) (Nat.le_refl _)⟩
  case round =>
    obtain ⟨j, v, hj, rfl, rfl, hgd, hb⟩ := hrel
    have hD := hid hb.out.below
    by_cases hlt : j < xs.length
    · obtain ⟨x, hx⟩ : ∃ x, xs[j]? = some x := ⟨_, List.getElem?_eq_getElem hlt⟩
      obtain ⟨b, off, cs, rfl, hbg, hc, hr⟩ := (hL0.out.later hD.out).at_ hx
      have hbg' : b < wr.heap.size := hbg
      have hmx := hid (hm'.out x (List.mem_of_getElem? hx))
      have hkx := hid (hkl.out j x hx)
      have hsx := hid (keysP_succ hx)
      have hbad := hid (badI_at hx hgd.out)
      have htk := hid (take_succ_of hx)
      have hgx := hid (fun w cs h => rgood_mass x hmx.out w cs h)
      have hox : Hid (x.good = 0 → ∀ (w : World) (cs : List Value), Rd w (Now w) x cs → Calls Tryd.prog 23 #[.agg cs.toArray] w fun e w' => ∃ v, e = .returned v ∧ Made w w' x.key v) := fun hg w cs h => rof5_calls x w cs (by have := hkx.out; omega) (good_form hg).1 h
      obtain ⟨G, hGx⟩ : ∃ G, x.good = G := ⟨_, rfl⟩
      rw [hGx] at hgx hox hbad
      replace hGx := hid hGx
      obtain ⟨xk, xn, xt, xl, xfn, xfv⟩ := x
      obtain ⟨xa, xc, za, zc, rfl, _⟩ := hr.inv
      obtain ⟨d0, d1, d2, d3, d4⟩ := five hc
      have hcl : Hid (∀ w', Below wr.heap.size wr w' → _) := fun w' h => five (cells_later h hbg' hc)
      replace hr := hid hr
      have p1 : (0 : Int) ≤ (j : Int) := by omega
      have l1 : (j : Int) < (xs.length : Int) := by omega
      clear hc
      go_wp2_with fail
      refine (hgx.out _ _ hr.out).mono ?_
      rintro e w6 ⟨rfl, h6⟩
      clear d0 d1 d2 d3 d4
      by_cases hG : G = 0
      · subst hG
        obtain ⟨d0, d1, d2, d3, d4⟩ := hcl.out _ h6
        go_wp2_with fail
        refine (hox.out (by first | rfl | trivial) _ _ (hr.out.later h6)).mono ?_
        rintro e w7 ⟨v7, rfl, g7, c7, rfl, hm7⟩
        clear d0 d1 d2 d3 d4
        go_wp2_with (first
          | (at_builtin; (refine wpList_buf_made rfl (.tmp 21) (.tmp 26) rfl hP rfl ((hb.out.later h6).later hm7.below) _ g7 _ _ rfl rfl hm7.src (by have := hkx.out; omega) ?_); intro v8 w8 hb8))
        have hb9 := hid hb8
        go_roundg (xs.length - (j + 1))
        case measure => omega
        case rel => exact ⟨j + 1, v8, by omega, by go_num, rfl, by
          rw [htk.out]; intro y hy
          rcases List.mem_append.1 hy with h | h
          · exact hgd.out y h
          · rw [List.mem_singleton.1 h]; exact hGx.out, by rw [hsx.out]; exact hb9⟩
      · have hGb : (G != 0) = true := by simp [hG]
        have hJG : J = G := hJ.out.symm.trans (hbad.out hG)
        have hL1 : L = [] := by rw [← hLL.out, hJG, if_neg hG]
        subst hJG hL1
        clear hbad hLL hJ
        go_wp2_with fail
        go_returns
        exact ⟨_, rfl, hD.out.step h6, none, 0, rfl, by simp, by simp, .inl rfl⟩
    · have hj2 : xs.take j = xs := List.take_of_length_le (by omega)
      rw [hj2] at hb hgd
      have hb0 : badI xs = 0 := badI_zero.2 hgd.out
      have hJG : J = 0 := hJ.out.symm.trans hb0
      have hL1 : L = keysP xs := by rw [← hLL.out, hJG, if_pos rfl]
      subst hJG hL1
      clear hLL hJ
      go_wp2_with fail
      go_returns
      exact ⟨_, rfl, hD.out, hb.out.bytes⟩

set_option maxRecDepth 100000 in
set_option maxHeartbeats 2000000 in
theorem rafter5_calls {w : World} {bv : Value} {l : List UInt8} (hb : BytesAt w (Now w) l bv) (hl : l.length ≤ 17179869184) :
    Calls Tryd.prog 47 #[bv] w fun e w' => ∃ v, e = .returned (.tuple #[v, .bool (afterP l).isSome]) ∧ OwnB w w' ((afterP l).getD []) v := by
  have hb0 := hid hb
  obtain ⟨a, cap, rfl, hc1, hc2, hs⟩ := hb
  obtain ⟨R, hR⟩ : ∃ R, afterP l = R := ⟨_, rfl⟩
  rw [hR]
  replace hR := hid hR
  obtain ⟨i0, hi, hz0, hz1, hz2⟩ := info_parts info_u8
  go_enter Tryd.func47, Tryd.ntmps47
  go_wp2_with fail
  go_loopg [4] l.length (fun gh s4 wr => ∃ (n : Nat), gh = n ∧ n ≤ l.length ∧ s4 = .int .i64 n ∧ (∀ x ∈ l.drop n, x = 255) ∧ wr = w)
  case atStart => exact ⟨l.length, rfl, Nat.le_refl _, rfl, by simp, rfl⟩
  case round =>
    obtain ⟨n, rfl, hn, rfl, hf, rfl⟩ := hrel
    replace hf := hid hf
    cases gk with
    | zero =>
      have hno : Hid (R = none) := by show _ = _; rw [← hR.out]; exact afterP_all (by simpa using hf.out)
      go_wp2_with fail
      go_returns
      rw [hno.out]
      exact ⟨_, rfl, Below.refl _ _, by simpa [bcells] using World.ownsRow_nil _ _ _ _⟩
    | succ m =>
      obtain ⟨b, off, rfl, hbn, hcell⟩ : ∃ b off, a = some ⟨b, off, none⟩ ∧ Now wr b ∧ ∀ (j : Nat) (c : UInt8), l[j]? = some c → wr.cell? ⟨b, off + j, none⟩ = some (.int .u8 c.toNat) := by
        rcases hs with hs | hs
        · subst hs; simp at hn
        · exact hs
      obtain ⟨c, hc⟩ : ∃ c, l[m]? = some c := ⟨_, List.getElem?_eq_getElem (by omega)⟩
      have hcx := hcell m c hc
      have hdr : Hid (l.drop m = c :: l.drop (m + 1)) := by show _ = _; rw [List.drop_eq_getElem_cons (by omega), (List.getElem?_eq_some_iff.1 hc).2]
      have e1 : IntKind.i64.wrap (((m + 1 : Nat) : Int) - 1) = (m : Int) := by rw [IntWalk.i64_in _ (by omega)]; omega
      have e1' : IntKind.i64.wrap ((m : Int) + 1 - 1) = (m : Int) := by rw [IntWalk.i64_in _ (by omega)]; omega
      have i1 : (m : Int) < (l.length : Int) := by omega
      have i0' : (0 : Int) ≤ (m : Int) := by omega
      clear hs
      by_cases h255 : c = 255
      · subst h255
        go_wp2_with fail
        go_roundg m
        case measure => omega
        case rel => exact ⟨m, rfl, by omega, by go_num, by rw [hdr.out]; intro x hx; rcases List.mem_cons.1 hx with h | h; exact h; exact hf.out x h, rfl⟩
      · have hne : ((c.toNat : Int) == 255) = false := by
          have : c.toNat ≠ 255 := fun e => h255 (UInt8.toNat_inj.1 e)
          simp; omega
        have hlm : (l.take (m + 1)).length = m + 1 := by rw [List.length_take]; omega
        have hsrc := hid (bytes_pre hb0.out (show m + 1 ≤ l.length by omega)).cells_at
        have hyes : Hid (R = some (l.take m ++ [UInt8.ofNat (c.toNat + 1)])) := by
          show _ = _
          rw [← hR.out]
          conv => lhs; rw [← List.take_append_drop m l, hdr.out]
          exact afterP_at _ h255 hf.out
        have htk : Hid (l.take (m + 1) = l.take m ++ [c]) := take_succ_of hc
        have hlm0 : Hid ((l.take m).length = m) := by show _ = _; rw [List.length_take]; omega
        obtain ⟨h1, h2⟩ := byte_succ h255
        replace h2 := hid h2
        have e2 : IntKind.u8.wrap ((c.toNat : Int) + 1) = ((c.toNat + 1 : Nat) : Int) := by rw [IntKind.wrap_u8]; omega
        have i2 : (m : Int) < (m : Int) + 1 := by omega
        replace hlm := hid hlm
        go_upto_region 8 with (first
          | (at_builtin; (refine wpList_append_own_any _ rfl (.tmp 22) (.tmp 25) 26 rfl wr.heap.size 5 i0 (.int .u8 0) 1 1 Tryd.underlying26 hi hz0 hz1 hz2 rfl (by decide) _ 0 [] rfl (World.ownsRow_nil _ _ _ _) (some ⟨b, off, none⟩) (m + 1) cap (bcells (l.take (m + 1))) rfl (by rw [bcells_length, hlm.out, Nat.mul_one]) (fun h => by cases h) (fun ad had => by obtain rfl := Option.some.inj had; exact hsrc.out) (bcells_one _) (by unfold maxLen; omega) (by omega) (Nat.le_refl _) ?_); intro v5 w5 hown5 hg5))
        have hB5 : Below wr.heap.size wr w5 := ⟨hg5.os, hg5.tape, hg5.output, hg5.size, fun k hk => hg5.block k hk (fun (e : some k = none) => by cases e)⟩
        have ho5 : w5.ownsRow wr.heap.size 5 1 v5 (m + 1) (bcells (l.take m) ++ bcells [c]) := by
          rw [← bcells_append, ← htk.out]
          simpa using hown5
        clear hown5 hg5
        obtain ⟨g5, c5, rfl⟩ : ∃ g5 c5, v5 = .slice (some ⟨g5, 0, none⟩) (m + 1) c5 := by
          rcases ho5.2 with ⟨_, h0⟩ | ⟨g, cap, cur, hv, _⟩
          · omega
          · exact ⟨g, cap, hv⟩
        have k0 : w5.cell? ⟨g5, m, none⟩ = some (.int .u8 c.toNat) := by
          rw [ho5.cellAt m (by omega), List.getElem?_append_right (by rw [bcells_length, hlm0.out]; omega), bcells_length, hlm0.out, Nat.sub_self]
          rfl
        have fz := ho5.frozenAt m
        have hst := (ho5.stored m (.int .u8 ((c.toNat + 1 : Nat) : Int))).1
        have hgr := (ho5.stored m (.int .u8 ((c.toNat + 1 : Nat) : Int))).2
        have hB6 := hid (hB5.grown hgr hB5.size (fun k hk => by obtain rfl := Option.some.inj hk; exact (ho5.lt g5 rfl).1))
        have hset : (bcells (l.take m) ++ bcells [c]).set m (.int .u8 ((c.toNat + 1 : Nat) : Int)) = bcells (l.take m ++ [UInt8.ofNat (c.toNat + 1)]) := by
          rw [List.set_append_right _ _ (by rw [bcells_length, hlm0.out]; omega), bcells_length, hlm0.out, Nat.sub_self, bcells_append]
          simp only [bcells, List.map_cons, List.map_nil, List.set_cons_zero, h2.out]
        rw [hset] at hst
        replace hst := hid hst
        clear ho5 hgr hset hcell
        go_wp2_with fail
        go_returns
        rw [hyes.out]
        exact ⟨_, rfl, hB6.out, by simpa [hlm0.out] using hst.out⟩
end Go.Proofs.YtihcegakghmdfaaDoor

namespace Go.Proofs.YtihcegakghmdfaaDoor
open Go.RowKit Go.Proofs
section
variable {G : Option (List UInt8 × Nat)} {t : List UInt8} {c : Nat} {a d : UInt8} {r : List UInt8}
theorem goU_short (h : GoT G t c (txtK true r)) (hr : r.length ≤ 1) : G = none := by
  match r, hr with
  | [], _ => exact h
  | [_], _ => exact h
theorem goU_char (h : GoT G t c (txtK true (a :: r))) (ha : a ≠ 0) : GoT G (t ++ [a]) (c + 1) (txtK true r) := by
  cases r with
  | nil => exact h
  | cons d r =>
    rw [txtK, if_neg ha] at h
    cases hl : txtK true (d :: r) with
    | none => rw [hl] at h; exact h
    | some q =>
      obtain ⟨u, k⟩ := q
      rw [hl] at h
      show G = some ((t ++ [a]) ++ u, c + 1 + k)
      rw [show G = some (t ++ (a :: u), c + (k + 1)) from h]
      simp; omega
theorem goU_esc (h : GoT G t c (txtK true (0 :: 255 :: r))) : GoT G (t ++ [0]) (c + 2) (txtK true r) := by
  rw [txtK, if_pos rfl, if_pos rfl] at h
  cases hl : txtK true r with
  | none => rw [hl] at h; exact h
  | some q =>
    obtain ⟨u, k⟩ := q
    rw [hl] at h
    show G = some ((t ++ [0]) ++ u, c + 2 + k)
    rw [show G = some (t ++ (0 :: u), c + (k + 2)) from h]
    simp; omega
theorem goU_end (h : GoT G t c (txtK true (0 :: 0 :: r))) : G = some (t, c + 2) := by
  rw [txtK, if_pos rfl, if_neg (by decide), if_neg (by simp)] at h
  have : G = some (t ++ [], c + 2) := h
  simpa using this
theorem goU_bad (h : GoT G t c (txtK true (0 :: d :: r))) (h1 : d ≠ 255) (h2 : d ≠ 0) : G = none := by
  rw [txtK, if_pos rfl, if_neg h1, if_pos ⟨rfl, h2⟩] at h
  exact h
end
/-- What untext tells. -/
def Untext (R : Option (List UInt8 × Nat)) (p : Nat) (e : Ending) : Prop := match R with
  | some (t, c) => e = .returned (.tuple #[.string ⟨t.toArray⟩, .int .i64 ((p + c : Nat) : Int), .bool true])
  | none => ∃ (s : ByteArray) (z : Int), e = .returned (.tuple #[.string s, .int .i64 z, .bool false]) ∧ s.size ≤ 17179869184
theorem bytes_cells {w : World} {S : Nat → Prop} {l : List UInt8} {a : Option Addr} {n cap : Nat} (h : BytesAt w S l (.slice a n cap)) (hl : l ≠ []) : ∃ b off, a = some ⟨b, off, none⟩ ∧ S b ∧ ∀ (j : Nat) (c : UInt8), l[j]? = some c → w.cell? ⟨b, off + j, none⟩ = some (.int .u8 c.toNat) := by
  obtain ⟨a', c', e, _, _, h9⟩ := h
  injection e with e1
  subst e1
  rcases h9 with h0 | h0
  · exact absurd h0 hl
  · exact h0

set_option maxRecDepth 100000 in
set_option maxHeartbeats 2000000 in
theorem runtext5_calls {w : World} {bv : Value} {l : List UInt8} (hb : BytesAt w (Now w) l bv) (hl : l.length ≤ 17179869184) (p : Nat) (hp : p ≤ l.length) :
    Calls Tryd.prog 98 #[bv, .int .i64 p] w fun e w' => Untext (txtK true (l.drop p)) p e ∧ Below w.heap.size w w' := by
  obtain ⟨i, hP⟩ := byte8
  obtain ⟨G, hG⟩ : ∃ G, G = txtK true (l.drop p) := ⟨_, rfl⟩
  have hgo : Hid (GoT G [] 0 (txtK true (l.drop (p + 0)))) := by show GoT _ _ _ _; rw [Nat.add_zero, ← hG]; exact goT_start G
  rw [← hG]
  clear hG
  have hb0 := hid hb
  obtain ⟨a, cap, rfl, hc1, hc2, _⟩ := hb
  go_enter Tryd.func98, Tryd.ntmps98
  go_wp2_with fail
  go_loopg [1, 7] (l.length - p) (fun gh s1 s7 wr => ∃ (c : Nat) (t : List UInt8) (v : Value), gh = l.length - (p + c) ∧ p + c ≤ l.length ∧ t.length ≤ c ∧ s1 = .int .i64 ((p + c : Nat) : Int) ∧ v = s7 ∧ Hid (GoT G t c (txtK true (l.drop (p + c)))) ∧ Hid (Buf w.heap.size 5 w wr t v))
  case atStart => exact ⟨0, [], _, by omega, by omega, by simp, rfl, rfl, hgo, Buf.nil (Below.refl _ _) (Nat.le_refl _)⟩
  case round =>
    clear hgo
    obtain ⟨c, t, v, rfl, hcl, htl, rfl, rfl, hgo, hbt⟩ := hrel
    have e1 : IntKind.i64.wrap (((p + c : Nat) : Int) + 1) = ((p + c + 1 : Nat) : Int) := by rw [IntWalk.i64_in _ (by omega)]; omega
    have e2 : IntKind.i64.wrap (((p + c : Nat) : Int) + 2) = ((p + c + 2 : Nat) : Int) := by rw [IntWalk.i64_in _ (by omega)]; omega
    have e1' : IntKind.i64.wrap ((p : Int) + (c : Int) + 1) = ((p + c + 1 : Nat) : Int) := by rw [IntWalk.i64_in _ (by omega)]; omega
    have e2' : IntKind.i64.wrap ((p : Int) + (c : Int) + 2) = ((p + c + 2 : Nat) : Int) := by rw [IntWalk.i64_in _ (by omega)]; omega
    by_cases hlt : p + c + 1 < l.length
    · have hne : l ≠ [] := fun h => by rw [h] at hlt; simp at hlt
      obtain ⟨b, off, rfl, _, hcell⟩ := bytes_cells (hb0.out.later hbt.out.below) hne
      obtain ⟨x, hx⟩ : ∃ x, l[p + c]? = some x := ⟨_, List.getElem?_eq_getElem (by omega)⟩
      obtain ⟨y, hy⟩ : ∃ y, l[p + c + 1]? = some y := ⟨_, List.getElem?_eq_getElem hlt⟩
      have hd : l.drop (p + c) = x :: y :: l.drop (p + c + 2) := by
        rw [List.drop_eq_getElem_cons (by omega), (List.getElem?_eq_some_iff.1 hx).2, List.drop_eq_getElem_cons hlt, (List.getElem?_eq_some_iff.1 hy).2]
      have hcx := hcell _ _ hx
      have hcy := hcell _ _ hy
      have k0 : (0 : Int) ≤ (p : Int) + (c : Int) := by omega
      have k1 : (p : Int) + (c : Int) < (l.length : Int) := by omega
      have k2 : (p : Int) + (c : Int) + 1 < (l.length : Int) := by omega
      have k3 : (0 : Int) ≤ (p : Int) + (c : Int) + 1 := by omega
      have tn1 : ((p : Int) + (c : Int)).toNat = p + c := by omega
      have tn2 : ((p : Int) + (c : Int) + 1).toNat = p + c + 1 := by omega
      rw [hd] at hgo
      have hdd1 : Hid (l.drop (p + (c + 1)) = y :: l.drop (p + c + 2)) := by show _ = _; rw [show p + (c + 1) = p + c + 1 by omega, List.drop_eq_getElem_cons hlt, (List.getElem?_eq_some_iff.1 hy).2]
      clear hcell hx hy hd
      by_cases hx0 : x = 0
      · subst hx0
        by_cases hy255 : y = 255
        · subst hy255
          have hst := hid (goU_esc hgo.out)
          clear hgo
          go_wp2_with (first
            | (at_builtin; (refine wpList_buf_made rfl (.tmp 33) (.tmp 34) rfl hP rfl (hbt.out.later (below_new _ _)) [0] wr.heap.size 1 1 rfl rfl (src_new [0] _ rfl rfl) (by simp only [List.length_singleton]; omega) ?_); intro v1 w1 hb1))
          have hb3 := hid hb1
          go_roundg (l.length - (p + (c + 2)))
          case measure => omega
          case rel => exact ⟨c + 2, t ++ [0], v1, by omega, by omega, by simp; omega, by go_num, rfl, by rw [show p + (c + 2) = p + c + 2 by omega]; exact hst, hb3⟩
        · have hyn : ((y.toNat : Int) == 255) = false := by
            have : y.toNat ≠ 255 := fun e => hy255 (UInt8.toNat_inj.1 e)
            simp; omega
          have hcv : ∀ q : Later wr, (convert 26 9 v).run Tryd.prog q.x = .ok (.string ⟨t.toArray⟩) q.x := fun q => conv_buf Tryd.underlying26 Tryd.underlying5 Tryd.underlying9 (hbt.out.later q.h)
          by_cases hy0 : y = 0
          · subst hy0
            have hG := hid (goU_end hgo.out)
            clear hgo hdd1
            go_upto_region 9 with fail
            have cy := Later.cell hcy
            refine wp_later (by kernel_rfl) (by kernel_rfl) ?_
            repeat (go_big_quiet_step (fail))
            refine wpQuiet_nil ?_
            rintro _ ⟨q, rfl⟩
            clear hcv
            go_wp2_with fail
            go_returns
            rw [hG.out]
            exact ⟨rfl, hbt.out.below.trans (q.h.mono hbt.out.2.2)⟩
          · have hG := hid (goU_bad hgo.out hy255 hy0)
            have hyz : ((y.toNat : Int) == 0) = false := by
              have : y.toNat ≠ 0 := fun e => hy0 (UInt8.toNat_inj.1 e)
              simp; omega
            clear hgo hdd1
            go_upto_region 9 with fail
            have cy := Later.cell hcy
            refine wp_later (by kernel_rfl) (by kernel_rfl) ?_
            repeat (go_big_quiet_step (fail))
            refine wpQuiet_nil ?_
            rintro _ ⟨q, rfl⟩
            clear hcv
            go_wp2_with fail
            go_returns
            rw [hG.out]
            exact ⟨⟨_, _, rfl, by simp only [ByteArray.size, List.size_toArray]; omega⟩, hbt.out.below.trans (q.h.mono hbt.out.2.2)⟩
      · have hxn : ((x.toNat : Int) != 0) = true := by
          have : x.toNat ≠ 0 := fun e => hx0 (UInt8.toNat_inj.1 e)
          simp; omega
        have hst := hid (goU_char hgo.out hx0)
        clear hgo
        go_wp2_with (first
          | (at_builtin; (refine wpList_buf_made rfl (.tmp 18) (.tmp 23) rfl hP rfl (hbt.out.later (below_new _ _)) [x] wr.heap.size 1 1 rfl rfl (src_new [x] _ rfl rfl) (by simp only [List.length_singleton]; omega) ?_); intro v1 w1 hb1))
        have hb3 := hid hb1
        go_roundg (l.length - (p + (c + 1)))
        case measure => omega
        case rel => exact ⟨c + 1, t ++ [x], v1, by omega, by omega, by simp; omega, by go_num, rfl, by rw [hdd1.out]; exact hst, hb3⟩
    · have hG : Hid (G = none) := goU_short hgo.out (by rw [List.length_drop]; omega)
      have k2 : ¬ (p : Int) + (c : Int) + 1 < (l.length : Int) := by omega
      clear hgo
      go_wp2_with fail
      go_returns
      rw [hG.out]
      exact ⟨⟨_, _, rfl, by decide⟩, hbt.out.below⟩
end Go.Proofs.YtihcegakghmdfaaDoor
