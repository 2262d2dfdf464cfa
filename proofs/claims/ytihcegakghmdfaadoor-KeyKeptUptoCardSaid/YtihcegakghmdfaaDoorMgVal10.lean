/-
  Walks: value.compare, Compare.
  Walks: value.Compare; the makers of values in the statements of layer 2.
  Walks: the makers of values in the statements of layer 2.
  Plain: how good the made values are; walk: awake.
-/
import Derived.Test.YtihcegakghmdfaaDoorMgVal8
import Derived.Test.YtihcegakghmdfaaDoorMgRef1
import Derived.Deep.RegionWith
import Derived.Outline
import Derived.Handy
import Derived.Lib.ValidLaws
namespace Go.Proofs.YtihcegakghmdfaaDoor
open Go.RowKit Go.Proofs

mutual
def cmpV : PVal → PVal → Int
  | .mk k n s l fn fv, .mk k' n' s' l' fn' fv' =>
    if icmp k k' ≠ 0 then icmp k k' else if cmpL l l' ≠ 0 then cmpL l l' else if cmpF fn fv fn' fv' ≠ 0 then cmpF fn fv fn' fv' else
      orI [icmp n n', scmp s s', icmp l.length l'.length, icmp fv.length fv'.length]
def cmpL : List PVal → List PVal → Int
  | x :: r, y :: r' => if cmpV x y ≠ 0 then cmpV x y else cmpL r r'
  | _, _ => 0
def cmpF : List ByteArray → List PVal → List ByteArray → List PVal → Int
  | a :: ar, x :: r, b :: br, y :: r' => if orI [scmp a b, cmpV x y] ≠ 0 then orI [scmp a b, cmpV x y] else cmpF ar r br r'
  | _, _, _, _ => 0
end
theorem drop_at {α : Type} {l : List α} {j : Nat} {x : α} (h : l[j]? = some x) : l.drop j = x :: l.drop (j + 1) := by
  obtain ⟨hj, rfl⟩ := List.getElem?_eq_some_iff.1 h
  exact List.drop_eq_getElem_cons hj
theorem cmpL_step {l l' : List PVal} {j : Nat} {x y : PVal} (h : l[j]? = some x) (h' : l'[j]? = some y) :
    cmpL (l.drop j) (l'.drop j) = if cmpV x y ≠ 0 then cmpV x y else cmpL (l.drop (j + 1)) (l'.drop (j + 1)) := by
  rw [drop_at h, drop_at h', cmpL]
theorem cmpF_step {fn fn' : List ByteArray} {l l' : List PVal} {j : Nat} {a b : ByteArray} {x y : PVal} (ha : fn[j]? = some a) (h : l[j]? = some x) (hb : fn'[j]? = some b) (h' : l'[j]? = some y) :
    cmpF (fn.drop j) (l.drop j) (fn'.drop j) (l'.drop j) = if orI [scmp a b, cmpV x y] ≠ 0 then orI [scmp a b, cmpV x y] else cmpF (fn.drop (j + 1)) (l.drop (j + 1)) (fn'.drop (j + 1)) (l'.drop (j + 1)) := by
  rw [drop_at h, drop_at h', drop_at ha, drop_at hb, cmpF]
theorem cmpF_end {fn fn' : List ByteArray} {l l' : List PVal} {j : Nat} (h : l.length ≤ j ∨ l'.length ≤ j) : cmpF (fn.drop j) (l.drop j) (fn'.drop j) (l'.drop j) = 0 := by
  rcases h with h | h
  · rw [List.drop_of_length_le h]; cases fn.drop j <;> simp [cmpF]
  · rw [List.drop_of_length_le h]; cases l.drop j <;> cases fn.drop j <;> cases fn'.drop j <;> simp [cmpF]
theorem cmpL_end {l l' : List PVal} {j : Nat} (h : l.length ≤ j ∨ l'.length ≤ j) : cmpL (l.drop j) (l'.drop j) = 0 := by
  rcases h with h | h
  · rw [List.drop_of_length_le h]; simp [cmpL]
  · rw [List.drop_of_length_le h]; cases l.drop j <;> simp [cmpL]

theorem or_cells (w : World) (xs : List Int) (t : TypeId) {cs : Array Value} (hc : cs = (xs.map (Value.int .i64)).toArray) :
    ∀ i, i < xs.length → (w.alloc (.cells cs t)).cell? ⟨w.heap.size, 0 + i, none⟩ = some (.int .i64 (xs.getD i 0)) := by
  intro i hi
  rw [Nat.zero_add, cell_of_row _ _ _ _ _ _ (heap_alloc_new w _), hc]
  simp [List.getD, List.getElem?_eq_getElem hi]

set_option maxRecDepth 100000 in
set_option maxHeartbeats 4000000 in
theorem compare_calls : ∀ (V V' : PVal) (w : World) (cs cs' : List Value), Rd w (Now w) V cs → Rd w (Now w) V' cs' →
    Calls Tryd.prog 95 #[.agg cs.toArray, .agg cs'.toArray] w fun e w' => e = .returned (.int .i64 (cmpV V V')) ∧ Below w.heap.size w w' := by
  intro V
  induction hN : V.nodes using Nat.strongRecOn generalizing V with
  | _ N ih =>
  subst hN
  intro V' w cs cs' hV hV'
  have hV0 := hid hV
  have hV0' := hid hV'
  obtain ⟨k, n, s, l, fn, fv⟩ := V
  obtain ⟨k', n', s', l', fn', fv'⟩ := V'
  obtain ⟨la, lc, fa, fc, rfl, hk, hn, hs, hlc, hlm, hfc, hfm, hL, hF⟩ := hV.inv
  obtain ⟨la', lc', fa', fc', rfl, hk', hn', hs', hlc', hlm', hfc', hfm', hL', hF'⟩ := hV'.inv
  clear hV hV'
  have hd : Hid (cmpV (.mk k n s l fn fv) (.mk k' n' s' l' fn' fv') = if icmp k k' ≠ 0 then icmp k k' else if cmpL l l' ≠ 0 then cmpL l l' else if cmpF fn fv fn' fv' ≠ 0 then cmpF fn fv fn' fv' else
      orI [icmp n n', scmp s s', icmp l.length l'.length, icmp fv.length fv'.length]) := by show _ = _; rw [cmpV]
  generalize cmpV (.mk k n s l fn fv) (.mk k' n' s' l' fn' fv') = R at *
  have hck := hid (fun w => cmp_int_calls k k' w)
  generalize hki : icmp k k' = K at *
  clear hki
  have hlen := hid hF.1
  have hlen' := hid hF'.1
  by_cases hK : K = 0
  · subst hK
    go_enter Tryd.func95, Tryd.ntmps95
    go_wp2_with fail
    refine (hck.out _).mono ?_
    rintro e w1 ⟨rfl, rfl⟩
    go_wp2_with fail
    go_loopg [25] (min l.length l'.length) (fun g i wr => ∃ j : Nat, g + j = min l.length l'.length ∧ i = .int .i64 j ∧ cmpL l l' = cmpL (l.drop j) (l'.drop j) ∧ Below ((w.alloc (.cells #[.int .i64 k, .int .i64 n, .string s, .slice la l.length lc, .slice fa fv.length fc] 25)).alloc (.cells #[.int .i64 k', .int .i64 n', .string s', .slice la' l'.length lc', .slice fa' fv'.length fc'] 25)).heap.size ((w.alloc (.cells #[.int .i64 k, .int .i64 n, .string s, .slice la l.length lc, .slice fa fv.length fc] 25)).alloc (.cells #[.int .i64 k', .int .i64 n', .string s', .slice la' l'.length lc', .slice fa' fv'.length fc'] 25)) wr)
    case atStart => exact ⟨0, by omega, rfl, by simp, Below.refl _ _⟩
    case round =>
      obtain ⟨j, hj, rfl, hcl, hbr⟩ := hrel
      have hcl := hid hcl
      obtain ⟨ka, kb⟩ := two_cells hbr
      have hbw : Below w.heap.size w wr := ((below_new w _).step (below_new _ _)).step hbr
      have hpr := hL.later hbw
      have hpr' := hL'.later hbw
      by_cases hlt : j < min l.length l'.length
      · obtain ⟨x, hx⟩ : ∃ x, l[j]? = some x := ⟨_, List.getElem?_eq_getElem (by omega)⟩
        obtain ⟨y, hy⟩ : ∃ y, l'[j]? = some y := ⟨_, List.getElem?_eq_getElem (by omega)⟩
        obtain ⟨b, off, xs, rfl, hxS, hxc, hxr⟩ := hpr.at_ hx
        obtain ⟨b', off', ys, rfl, hyS, hyc, hyr⟩ := hpr'.at_ hy
        have hxn := nodes_mem (List.mem_of_getElem? hx)
        have hst := hid (cmpL_step hx hy)
        have hcx := hid (fun (p : Later wr) => ih x.nodes (by simp only [PVal.nodes]; omega) x rfl y p.x xs ys (hxr.later p.h) (hyr.later p.h))
        generalize hcv : cmpV x y = c at *
        clear hcv hx hy hxn
        obtain ⟨xk, xn, xsx, xl, xfn, xfv⟩ := x
        obtain ⟨xla, xlc, xfa, xfc, rfl, _⟩ := hxr.inv
        obtain ⟨yk, yn, ysx, yl, yfn, yfv⟩ := y
        obtain ⟨yla, ylc, yfa, yfc, rfl, _⟩ := hyr.inv
        obtain ⟨c0, c1, c2, c3, c4⟩ := five hxc
        obtain ⟨d0, d1, d2, d3, d4⟩ := five hyc
        have A3 := Later.cell (ka 3 _ rfl)
        have B3 := Later.cell (kb 3 _ rfl)
        replace c0 := Later.cell c0
        replace c1 := Later.cell c1
        replace c2 := Later.cell c2
        replace c3 := Later.cell c3
        replace c4 := Later.cell c4
        replace d0 := Later.cell d0
        replace d1 := Later.cell d1
        replace d2 := Later.cell d2
        replace d3 := Later.cell d3
        replace d4 := Later.cell d4
        have i1 : (j : Int) < (l.length : Int) := by omega
        have i2 : (j : Int) < (l'.length : Int) := by omega
        clear hxc hyc ka kb
        go_wp2_with fail
        refine wp_later (by kernel_rfl) (by kernel_rfl) ?_
        repeat (go_big_quiet_step ((go_at_call 95; exact later_calls _ (hcx.out _))))
        refine wpQuiet_nil ?_
        intro _ hw'
        obtain ⟨p, hp⟩ := hw'
        subst hp
        clear A3 B3 c0 c1 c2 c3 c4 d0 d1 d2 d3 d4
        have hpb := hbr.step p.h
        go_wp2_with fail
        · have ht : (c != 0) = true := by assumption
          have hc0 : c ≠ 0 := by simpa using ht
          have he : Hid (R = c) := by
            show _ = _
            rw [hd.out, hcl.out, hst.out]; simp [hc0]
          go_ret
          exact ⟨by rw [he.out]; rfl, ((below_new w _).step (below_new _ _)).step hpb⟩
        · have ht : (c != 0) = false := by assumption
          have hc0 : c = 0 := by simpa using ht
          go_roundg (min l.length l'.length - (j + 1))
          case measure => omega
          case rel => exact ⟨j + 1, by omega, by go_num, by rw [hcl.out, hst.out]; simp [hc0], hpb⟩
      · have hz : Hid (cmpL l l' = 0) := by
          show _ = _
          rw [hcl.out]; exact cmpL_end (by omega)
        have a4 := ka 4 _ rfl
        have b4 := kb 4 _ rfl
        clear hcl hpr hpr'
        go_wp2_with fail
        clear a4 b4
        obtain ⟨wo, hwo⟩ : ∃ wo : World, wo = wr := ⟨_, rfl⟩
        subst hwo
        go_loopg [50] (min fv.length fv'.length) (fun g i wr => ∃ j : Nat, g + j = min fv.length fv'.length ∧ i = .int .i64 j ∧ cmpF fn fv fn' fv' = cmpF (fn.drop j) (fv.drop j) (fn'.drop j) (fv'.drop j) ∧ Below ((w.alloc (.cells #[.int .i64 k, .int .i64 n, .string s, .slice la l.length lc, .slice fa fv.length fc] 25)).alloc (.cells #[.int .i64 k', .int .i64 n', .string s', .slice la' l'.length lc', .slice fa' fv'.length fc'] 25)).heap.size ((w.alloc (.cells #[.int .i64 k, .int .i64 n, .string s, .slice la l.length lc, .slice fa fv.length fc] 25)).alloc (.cells #[.int .i64 k', .int .i64 n', .string s', .slice la' l'.length lc', .slice fa' fv'.length fc'] 25)) wr)
        case atStart => exact ⟨0, by omega, rfl, by simp, hbr⟩
        case round =>
          clear ka kb hbr hbw
          obtain ⟨j, hj, rfl, hcl, hbr⟩ := hrel
          have hcl := hid hcl
          obtain ⟨ka, kb⟩ := two_cells hbr
          have hbw : Below w.heap.size w wr := ((below_new w _).step (below_new _ _)).step hbr
          have hpr := hF.later hbw
          have hpr' := hF'.later hbw
          by_cases hlt : j < min fv.length fv'.length
          · obtain ⟨x, hx⟩ : ∃ x, fv[j]? = some x := ⟨_, List.getElem?_eq_getElem (by omega)⟩
            obtain ⟨y, hy⟩ : ∃ y, fv'[j]? = some y := ⟨_, List.getElem?_eq_getElem (by omega)⟩
            obtain ⟨nx, hnx⟩ : ∃ x, fn[j]? = some x := ⟨_, List.getElem?_eq_getElem (by rw [hlen.out]; omega)⟩
            obtain ⟨ny, hny⟩ : ∃ y, fn'[j]? = some y := ⟨_, List.getElem?_eq_getElem (by rw [hlen'.out]; omega)⟩
            obtain ⟨b, off, xs, rfl, hxS, hxc, hxr, _⟩ := hpr.at_ hnx hx
            obtain ⟨b', off', ys, rfl, hyS, hyc, hyr, _⟩ := hpr'.at_ hny hy
            have hxn := nodes_mem (List.mem_of_getElem? hx)
            have hst := hid (cmpF_step hnx hx hny hy)
            have hcx := hid (fun (p : Later wr) => ih x.nodes (by simp only [PVal.nodes]; omega) x rfl y p.x xs ys (hxr.later p.h) (hyr.later p.h))
            have hcs := hid (fun (p : Later wr) => Tryd.strings_Compare nx ny p.x)
            generalize hcv : cmpV x y = c at *
            have hsv : Hid (scmp nx ny = Lib.compareBytes nx.data.toList ny.data.toList) := rfl
            generalize Lib.compareBytes nx.data.toList ny.data.toList = sc at *
            rw [hsv.out] at hst
            clear hsv hcv hx hy hxn hnx hny
            obtain ⟨xk, xn, xsx, xl, xfn, xfv⟩ := x
            obtain ⟨xla, xlc, xfa, xfc, rfl, _⟩ := hxr.inv
            obtain ⟨yk, yn, ysx, yl, yfn, yfv⟩ := y
            obtain ⟨yla, ylc, yfa, yfc, rfl, _⟩ := hyr.inv
            obtain ⟨c0, c1, c2, c3, c4, c5⟩ := six hxc
            obtain ⟨d0, d1, d2, d3, d4, d5⟩ := six hyc
            have A4 := Later.cell (ka 4 _ rfl)
            have B4 := Later.cell (kb 4 _ rfl)
            replace c0 := Later.cell c0
            replace c1 := Later.cell c1
            replace c2 := Later.cell c2
            replace c3 := Later.cell c3
            replace c4 := Later.cell c4
            replace c5 := Later.cell c5
            replace d0 := Later.cell d0
            replace d1 := Later.cell d1
            replace d2 := Later.cell d2
            replace d3 := Later.cell d3
            replace d4 := Later.cell d4
            replace d5 := Later.cell d5
            have i1 : (j : Int) < (fv.length : Int) := by omega
            have i2 : (j : Int) < (fv'.length : Int) := by omega
            clear hxc hyc ka kb
            go_wp2_with fail
            refine wp_later_tail 26 (by kernel_rfl) (by kernel_rfl) ?_
            simp only [List.take_succ_cons, List.take_zero, List.drop_succ_cons, List.drop_zero]
            repeat (go_big_quiet_step ((first | (go_at_call 95; exact later_calls _ (hcx.out _)) | (go_at_call 122; exact later_same _ ((hcs.out _).mono fun _ _ h => ⟨h.1, h.2.symm⟩)))))
            refine wpQuiet_nil ?_
            intro _ hw'
            obtain ⟨p, hp⟩ := hw'
            subst hp
            clear A4 B4 c0 c1 c2 c3 c4 c5 d0 d1 d2 d3 d4 d5
            have hpb := hbr.step p.h
            go_wp2_with fail
            refine (or_int_calls [sc, c] (by simp) p.x.heap.size 2 _ (or_cells _ _ _ rfl)).mono ?_
            rintro e w2 ⟨rfl, rfl⟩
            have hpb2 := hpb.step (below_new p.x (.cells #[.int .i64 sc, .int .i64 c] 3))
            generalize orI [sc, c] = oc at *
            go_wp2_with fail
            · have ht : (oc != 0) = true := by assumption
              have hc0 : oc ≠ 0 := by simpa using ht
              have he : Hid (R = oc) := by
                show _ = _
                rw [hd.out, hz.out, hcl.out, hst.out]; simp [hc0]
              go_ret
              exact ⟨by rw [he.out]; rfl, ((below_new w _).step (below_new _ _)).step hpb2⟩
            · have ht : (oc != 0) = false := by assumption
              have hc0 : oc = 0 := by simpa using ht
              go_roundg (min fv.length fv'.length - (j + 1))
              case measure => omega
              case rel => exact ⟨j + 1, by omega, by go_num, by rw [hcl.out, hst.out]; simp [hc0], hpb2⟩
          · have hzf : Hid (cmpF fn fv fn' fv' = 0) := by
              show _ = _
              rw [hcl.out]; exact cmpF_end (by omega)
            have he : Hid (R = orI [icmp n n', scmp s s', icmp l.length l'.length, icmp fv.length fv'.length]) := by
              show _ = _
              rw [hd.out, hz.out, hzf.out]; simp
            have hsv : Hid (scmp s s' = Lib.compareBytes s.data.toList s'.data.toList) := rfl
            rw [hsv.out] at he
            have h1 := hid (fun (p : Later wr) => cmp_i64_calls n n' p.x)
            have h2 := hid (fun (p : Later wr) => Tryd.strings_Compare s s' p.x)
            have h3 := hid (fun (p : Later wr) => cmp_int_calls l.length l'.length p.x)
            have h4 := hid (fun (p : Later wr) => cmp_int_calls fv.length fv'.length p.x)
            generalize icmp n n' = r1 at *
            generalize Lib.compareBytes s.data.toList s'.data.toList = r2 at *
            generalize icmp l.length l'.length = r3 at *
            generalize icmp fv.length fv'.length = r4 at *
            have A1 := Later.cell (ka 1 _ rfl)
            have B1 := Later.cell (kb 1 _ rfl)
            have A2 := Later.cell (ka 2 _ rfl)
            have B2 := Later.cell (kb 2 _ rfl)
            have A3 := Later.cell (ka 3 _ rfl)
            have B3 := Later.cell (kb 3 _ rfl)
            have A4 := Later.cell (ka 4 _ rfl)
            have B4 := Later.cell (kb 4 _ rfl)
            clear hsv hpr hpr' ka kb hcl
            go_wp2_with fail
            refine wp_later_tail 24 (by kernel_rfl) (by kernel_rfl) ?_
            simp only [List.take_succ_cons, List.take_zero, List.drop_succ_cons, List.drop_zero]
            repeat (go_big_quiet_step ((first | (go_at_call 123; exact later_same _ (h1.out _)) | (go_at_call_of 120 l; exact later_same _ (h3.out _)) | (go_at_call_of 120 fv; exact later_same _ (h4.out _)) | (go_at_call 122; exact later_same _ ((h2.out _).mono fun _ _ h => ⟨h.1, h.2.symm⟩)))))
            refine wpQuiet_nil ?_
            intro _ hw'
            obtain ⟨p, hp⟩ := hw'
            subst hp
            clear A1 B1 A2 B2 A3 B3 A4 B4
            have hpb := hbr.step p.h
            go_wp2_with fail
            refine (or_int_calls [r1, r2, r3, r4] (by simp) p.x.heap.size 4 _ (or_cells _ _ _ rfl)).mono ?_
            rintro e w2 ⟨rfl, rfl⟩
            go_wp2_with fail
            go_ret
            exact ⟨by rw [he.out]; rfl, (((below_new w _).step (below_new _ _)).step hpb).step (below_new _ _)⟩
  · have hK' : (K != 0) = true := by simp [hK]
    have he : Hid (R = K) := by show _ = _; rw [hd.out]; simp [hK]
    go_enter Tryd.func95, Tryd.ntmps95
    go_wp2_with fail
    refine (hck.out _).mono ?_
    rintro e w1 ⟨rfl, rfl⟩
    go_wp2_with fail
    go_ret
    exact ⟨by rw [he.out]; rfl, (below_new _ _).step (below_new _ _)⟩
end Go.Proofs.YtihcegakghmdfaaDoor

namespace Go.Proofs.YtihcegakghmdfaaDoor
open Go.RowKit Go.Proofs

set_option maxRecDepth 100000 in
set_option maxHeartbeats 1000000 in
theorem compare_tells (V V' : PVal) (w : World) (cs cs' : List Value) (hN : V.nodes ≤ 20000) (hN' : V'.nodes ≤ 20000) (hT : Tabs w) (hV : Rd w (Now w) V cs) (hV' : Rd w (Now w) V' cs') :
    Calls Tryd.prog 59 #[.agg cs.toArray, .agg cs'.toArray] w fun e w' =>
      e = .returned (.tuple #[.int .i64 (if orI [V.good, V'.good] = 0 then cmpV V V' else 0), .int .i64 (orI [V.good, V'.good])]) ∧ Below w.heap.size w w' := by
  have hg := hid (fun w cs => good_calls V w cs hN)
  have hg' := hid (fun w cs => good_calls V' w cs hN')
  have hc := hid (compare_calls V V')
  have hT := hid hT
  have hV0 := hid hV
  have hV0' := hid hV'
  generalize V.good = G at *
  generalize V'.good = G' at *
  have ho := hid (fun b w hx => or_errno_calls [G, G'] (by simp) b 2 w hx)
  generalize cmpV V V' = C at *
  generalize orI [G, G'] = O at *
  obtain ⟨k, n, s, l, fn, fv⟩ := V
  obtain ⟨k', n', s', l', fn', fv'⟩ := V'
  obtain ⟨la, lc, fa, fc, rfl, _⟩ := hV.inv
  obtain ⟨la', lc', fa', fc', rfl, _⟩ := hV'.inv
  clear hV hV'
  have hbb := Below.refl (((w.alloc (.cells #[.int .i64 k, .int .i64 n, .string s, .slice la l.length lc, .slice fa fv.length fc] 25)).alloc (.cells #[.int .i64 k', .int .i64 n', .string s', .slice la' l'.length lc', .slice fa' fv'.length fc'] 25)).heap.size) ((w.alloc (.cells #[.int .i64 k, .int .i64 n, .string s, .slice la l.length lc, .slice fa fv.length fc] 25)).alloc (.cells #[.int .i64 k', .int .i64 n', .string s', .slice la' l'.length lc', .slice fa' fv'.length fc'] 25))
  obtain ⟨kA, kB⟩ := two_cells hbb
  have hb2 := (below_new w (.cells #[.int .i64 k, .int .i64 n, .string s, .slice la l.length lc, .slice fa fv.length fc] 25)).step (below_new (w.alloc (.cells #[.int .i64 k, .int .i64 n, .string s, .slice la l.length lc, .slice fa fv.length fc] 25)) (.cells #[.int .i64 k', .int .i64 n', .string s', .slice la' l'.length lc', .slice fa' fv'.length fc'] 25))
  have hA := hid (fun p : Later ((w.alloc (.cells #[.int .i64 k, .int .i64 n, .string s, .slice la l.length lc, .slice fa fv.length fc] 25)).alloc (.cells #[.int .i64 k', .int .i64 n', .string s', .slice la' l'.length lc', .slice fa' fv'.length fc'] 25)) => hg.out p.x _ (Tabs.stays _ _ hT.out (hb2.step p.h)) (hV0.out.later (hb2.step p.h)))
  have hB := hid (fun p : Later ((w.alloc (.cells #[.int .i64 k, .int .i64 n, .string s, .slice la l.length lc, .slice fa fv.length fc] 25)).alloc (.cells #[.int .i64 k', .int .i64 n', .string s', .slice la' l'.length lc', .slice fa' fv'.length fc'] 25)) => hg'.out p.x _ (Tabs.stays _ _ hT.out (hb2.step p.h)) (hV0'.out.later (hb2.step p.h)))
  have A0 := Later.cell (kA 0 _ rfl)
  have A1 := Later.cell (kA 1 _ rfl)
  have A2 := Later.cell (kA 2 _ rfl)
  have A3 := Later.cell (kA 3 _ rfl)
  have A4 := Later.cell (kA 4 _ rfl)
  have B0 := Later.cell (kB 0 _ rfl)
  have B1 := Later.cell (kB 1 _ rfl)
  have B2 := Later.cell (kB 2 _ rfl)
  have B3 := Later.cell (kB 3 _ rfl)
  have B4 := Later.cell (kB 4 _ rfl)
  clear hbb
  have kA := hid kA
  have kB := hid kB
  have hb2 := hid hb2
  go_enter Tryd.func59, Tryd.ntmps59
  go_wp2_with fail
  refine wp_later_tail 4 (by kernel_rfl) (by kernel_rfl) ?_
  simp only [List.take_succ_cons, List.take_zero, List.drop_succ_cons, List.drop_zero]
  repeat (go_big_quiet_step ((first | (go_at_call_of 36 fa; exact later_calls _ (hA.out _)) | (go_at_call_of 36 fa'; exact later_calls _ (hB.out _)))))
  refine wpQuiet_nil ?_
  intro _ hw'
  obtain ⟨p, hp⟩ := hw'
  subst hp
  clear A0 A1 A2 A3 A4 B0 B1 B2 B3 B4
  go_wp2_with fail
  refine (ho.out p.x.heap.size _ (or_cells _ [G, G'] _ rfl)).mono ?_
  rintro e w2 ⟨rfl, rfl⟩
  have hpb := hid ((hb2.out.step p.h).step (below_new p.x (.cells #[.int .i64 G, .int .i64 G'] 28)))
  have hpc := hid (p.h.trans ((below_new p.x (.cells #[.int .i64 G, .int .i64 G'] 28)).mono p.h.size))
  by_cases h0 : O = 0
  · subst h0
    obtain ⟨kA, kB⟩ := two_cells hpc.out
    have A0 := kA 0 _ rfl
    have A1 := kA 1 _ rfl
    have A2 := kA 2 _ rfl
    have A3 := kA 3 _ rfl
    have A4 := kA 4 _ rfl
    have B0 := kB 0 _ rfl
    have B1 := kB 1 _ rfl
    have B2 := kB 2 _ rfl
    have B3 := kB 3 _ rfl
    have B4 := kB 4 _ rfl
    go_wp2_with fail
    refine (hc.out _ _ _ (hV0.out.later hpb.out) (hV0'.out.later hpb.out)).mono ?_
    rintro e w3 ⟨rfl, hb3⟩
    go_wp2_with fail
    go_ret2
    exact ⟨rfl, hpb.out.step hb3⟩
  · have hG' : (O != 0) = true := by simp [h0]
    go_wp2_with fail
    go_ret2
    exact ⟨by simp only []; rfl, hpb.out⟩
end Go.Proofs.YtihcegakghmdfaaDoor

namespace Go.Proofs.YtihcegakghmdfaaDoor
open Go.RowKit Go.Proofs

def flatCs (k n : Int) (s : ByteArray) : List Value := [.int .i64 k, .int .i64 n, .string s, .slice none 0 0, .slice none 0 0]
theorem rd_flat (w : World) (S : Nat → Prop) {k n : Int} {s : ByteArray} (hk : I64 k) (hn : I64 n) (hs : s.size ≤ 140737488355328) : Rd w S (.mk k n s [] [] []) (flatCs k n s) :=
  .mk (la := none) (fa := none) (lc := 0) (fc := 0) (fun _ => []) (fun _ => []) hk hn hs (fun _ h => by cases h) rfl (by decide) (by decide) (by decide) (by decide) (.inl rfl) (fun i x h => by simp at h) (.inl rfl) (fun i x h => by simp at h)

theorem int_calls (n : Int) (w : World) : Calls Tryd.prog 41 #[.int .i64 n] w fun e w' => e = .returned (.agg #[.int .i64 3, .int .i64 n, .string ByteArray.empty, .slice none 0 0, .slice none 0 0]) ∧ Below w.heap.size w w' := by
  go_enter Tryd.func41, Tryd.ntmps41
  go_wp2_with fail
  go_returns
  exact ⟨rfl, below_new _ _⟩
theorem text_calls (s : ByteArray) (w : World) : Calls Tryd.prog 34 #[.string s] w fun e w' => e = .returned (.agg #[.int .i64 4, .int .i64 0, .string s, .slice none 0 0, .slice none 0 0]) ∧ Below w.heap.size w w' := by
  go_enter Tryd.func34, Tryd.ntmps34
  go_wp2_with fail
  go_returns
  exact ⟨rfl, below_new _ _⟩
theorem null_calls (w : World) : Calls Tryd.prog 40 #[] w fun e w' => e = .returned (.agg #[.int .i64 1, .int .i64 0, .string ByteArray.empty, .slice none 0 0, .slice none 0 0]) ∧ Below w.heap.size w w' := by
  go_enter Tryd.func40, Tryd.ntmps40
  go_wp2_with fail
  go_returns
  exact ⟨rfl, below_new _ _⟩
theorem list_calls (la : Option Addr) (n c : Nat) (w : World) : Calls Tryd.prog 42 #[.slice la n c] w fun e w' =>
    e = .returned (.agg #[.int .i64 5, .int .i64 0, .string ByteArray.empty, .slice la n c, .slice none 0 0]) ∧ Below w.heap.size w w' := by
  go_enter Tryd.func42, Tryd.ntmps42
  go_wp2_with fail
  go_returns
  exact ⟨rfl, below_new _ _⟩
/-- A list of a slice. -/
theorem rd_list {w : World} {S : Nat → Prop} {l : List PVal} {la : Option Addr} {c : Nat} (h : RdL w S l (.slice la l.length c)) :
    Rd w S (.mk 5 0 ByteArray.empty l [] []) [.int .i64 5, .int .i64 0, .string ByteArray.empty, .slice la l.length c, .slice none 0 0] := by
  obtain ⟨la', cap', cs, hv, h1, h2, h3, h4⟩ := h
  injection hv with e1 e2 e3
  subst e1 e3
  exact .mk (fa := none) (fc := 0) cs (fun _ => []) (by decide) (by decide) (by decide) (fun _ h => by cases h) rfl h1 h2 (by decide) (by decide) h3 h4 (.inl rfl) (fun i x h => by simp at h)
/-- A slice of one value that was just laid. -/
theorem rdL_one {w w' : World} {S : Nat → Prop} {V : PVal} {cs : List Value} {t : TypeId} (h : Rd w S V cs) (hb : Below (w.alloc (.cells cs.toArray t)).heap.size (w.alloc (.cells cs.toArray t)) w') (hS : ∀ b, S b → b < w.heap.size) :
    RdL w' (fun b => S b ∨ b = w.heap.size) [V] (.slice (some ⟨w.heap.size, 0, none⟩) 1 1) := by
  refine ⟨some ⟨w.heap.size, 0, none⟩, 1, fun _ => cs, rfl, Nat.le_refl _, by simp, .inr ⟨w.heap.size, 0, rfl, .inr rfl, fun i hi j v hv => ?_⟩, fun i x hx => ?_⟩
  · have hi0 : i = 0 := by simpa using hi
    subst hi0
    rw [show 0 + 0 * 5 + j = j by omega]
    exact box_cell hb (by simpa using hv)
  · have hi0 : i = 0 := by
      have := (List.getElem?_eq_some_iff.1 hx).1
      simpa using this
    subst hi0
    have hx' : V = x := by simpa using hx
    subst hx'
    exact h.keep (fun _ h => .inl h) (fun b hb' => by
      rw [hb.block b (by have := hS b hb'; simp; omega)]
      exact Below.heap_alloc _ _ _ (hS b hb'))
/-- A Doc of one field that was just laid. -/
theorem rd_doc {w w' : World} {S : Nat → Prop} {V : PVal} {cs : List Value} {nm : ByteArray} {t : TypeId} {g : Nat} (hg : g = w.heap.size) (h : Rd w S V cs) (hnm : nm.size ≤ 140737488355328)
    (hb : Below (w.alloc (.cells ((.string nm : Value) :: cs).toArray t)).heap.size (w.alloc (.cells ((.string nm : Value) :: cs).toArray t)) w') (hS : ∀ b, S b → b < w.heap.size) :
    Rd w' (fun b => S b ∨ b = w.heap.size) (.mk 6 0 ByteArray.empty [] [nm] [V]) [.int .i64 6, .int .i64 0, .string ByteArray.empty, .slice none 0 0, .slice (some ⟨g, 0, none⟩) 1 1] := by
  subst hg
  refine .mk (la := none) (lc := 0) (fun _ => []) (fun _ => cs) (by decide) (by decide) (by decide) (fun x hx => ?_) rfl (by decide) (by decide) (by simp) (by simp) (.inl rfl) (fun i x h => by simp at h)
    (.inr ⟨w.heap.size, 0, rfl, .inr rfl, fun i hi j v hv => ?_⟩) (fun i x hx => ?_)
  · have : x = nm := by simpa using hx
    subst this; exact hnm
  · have hi0 : i = 0 := by simpa using hi
    subst hi0
    rw [show 0 + 0 * 6 + j = j by omega]
    exact box_cell hb (by simpa using hv)
  · have hi0 : i = 0 := by
      have := (List.getElem?_eq_some_iff.1 hx).1
      simpa using this
    subst hi0
    have hx' : V = x := by simpa using hx
    subst hx'
    exact h.keep (fun _ h => .inl h) (fun b hb' => by
      rw [hb.block b (by have := hS b hb'; simp; omega)]
      exact Below.heap_alloc _ _ _ (hS b hb'))

theorem doc_calls (nm : ByteArray) (V : PVal) (S : Nat → Prop) (w : World) (cs : List Value) (hnm : nm.size ≤ 140737488355328) (hV : Rd w S V cs) (hS : ∀ b, S b → b < w.heap.size) : Calls Tryd.prog 43 #[.string nm, .agg cs.toArray] w fun e w' =>
    ∃ fa c, e = .returned (.agg #[.int .i64 6, .int .i64 0, .string ByteArray.empty, .slice none 0 0, .slice fa 1 c]) ∧ Rd w' (fun b => S b ∨ (w.heap.size ≤ b ∧ b < w'.heap.size)) (.mk 6 0 ByteArray.empty [] [nm] [V]) [.int .i64 6, .int .i64 0, .string ByteArray.empty, .slice none 0 0, .slice fa 1 c] ∧ Below w.heap.size w w' := by
  have hV0 := hid hV
  have hS := hid hS
  obtain ⟨k, n, s, l, fn, fv⟩ := V
  obtain ⟨la, lc, fa, fc, rfl, _⟩ := hV.inv
  clear hV
  go_enter Tryd.func43, Tryd.ntmps43
  go_wp2_with fail
  go_returns
  have hb := (below_new w (.cells #[.int .i64 k, .int .i64 n, .string s, .slice la l.length lc, .slice fa fv.length fc] 25)).step (below_new _ (.cells #[.int .i64 6, .int .i64 0, .string ByteArray.empty, .slice none 0 0, .slice (some ⟨w.heap.size + 1 + 1, 0, none⟩) 1 1] 25))
  have hsz := hb.size
  refine ⟨_, _, rfl, (rd_doc (by simp) (hV0.out.keep (S' := S) (fun _ h => h) (fun b h => hb.block b (hS.out b h))) hnm (Below.refl _ _) (fun b h => Nat.lt_of_lt_of_le (hS.out b h) hsz)).keep (fun b h => ?_) (fun _ _ => rfl), hb.step (below_new _ _)⟩
  rcases h with h | h
  · exact .inl h
  · right
    simp at h ⊢
    omega

theorem OwnL.ge {w : World} {S : Nat → Prop} {base e : Nat} {xs : List PVal} {v : Value} (h : OwnL w S base e xs v) (b : Nat) (hb : v.ownBlock = some b) : base ≤ b := by
  obtain ⟨css, _, ho, _⟩ := h
  exact (ho.lt b hb).1
def nullV : PVal := .mk 1 0 ByteArray.empty [] [] []
def longS : Nat → ByteArray
  | 0 => ByteArray.empty
  | j + 1 => longS j ++ ⟨#[110]⟩
theorem longS_size : ∀ j, (longS j).size = j
  | 0 => rfl
  | j + 1 => by rw [longS, ByteArray.size_append, longS_size j]; rfl
theorem longS_list : ∀ j, (longS j).data.toList = List.replicate j 110
  | 0 => rfl
  | j + 1 => by rw [longS, ByteArray.data_append, Array.toList_append, longS_list j, List.replicate_succ']
end Go.Proofs.YtihcegakghmdfaaDoor

namespace Go.Proofs.YtihcegakghmdfaaDoor
open Go.RowKit Go.Proofs

theorem utf_empty : utf ByteArray.empty = true := rfl
theorem digits_small {n : Nat} (h : n < 128) : digits n = 1 := by rw [digits, if_pos h]
theorem validD_rep : ∀ k, Lib.validD (List.replicate k 110) = true
  | 0 => rfl
  | k + 1 => by rw [List.replicate_succ, Lib.validD_cons _ _ (by decide), validD_rep k]
theorem utf_long (k : Nat) : utf (longS k) = true := by rw [utf, longS_list, validD_rep]

def intV (n : Int) : PVal := .mk 3 n ByteArray.empty [] [] []
def textV (s : ByteArray) : PVal := .mk 4 0 s [] [] []
def listV (l : List PVal) : PVal := .mk 5 0 ByteArray.empty l [] []
def docV (nm : ByteArray) (v : PVal) : PVal := .mk 6 0 ByteArray.empty [] [nm] [v]

theorem all_int (p : PVal → Bool) (n : Int) : (intV n).all p = p (intV n) := by simp [intV, PVal.all]
theorem all_text (p : PVal → Bool) (s : ByteArray) : (textV s).all p = p (textV s) := by simp [textV, PVal.all]
theorem all_null (p : PVal → Bool) : nullV.all p = p nullV := by simp [nullV, PVal.all]
theorem all_list (p : PVal → Bool) (l : List PVal) : (listV l).all p = (p (listV l) && l.all (·.all p)) := by simp [listV, PVal.all, allL_eq]
theorem all_doc (p : PVal → Bool) (nm : ByteArray) (v : PVal) : (docV nm v).all p = (p (docV nm v) && v.all p) := by simp [docV, PVal.all, allL]
theorem formed_int (n : Int) : formedB (intV n) = true := by simp [intV, formedB, rising]
theorem formed_null : formedB nullV = true := by simp [nullV, formedB, rising]
theorem formed_text (s : ByteArray) : formedB (textV s) = true := by simp [textV, formedB, rising]
theorem formed_list (l : List PVal) : formedB (listV l) = true := by simp [listV, formedB, rising]
theorem formed_doc (nm : ByteArray) (v : PVal) : formedB (docV nm v) = true := by simp [docV, formedB, rising]
theorem spelled_int (n : Int) : spelledB (intV n) = true := by simp [intV, spelledB, utf_empty]
theorem spelled_null : spelledB nullV = true := by simp [nullV, spelledB, utf_empty]
theorem spelled_text (s : ByteArray) : spelledB (textV s) = utf s := by simp [textV, spelledB]
theorem spelled_list (l : List PVal) : spelledB (listV l) = true := by simp [listV, spelledB, utf_empty]
theorem spelled_doc (nm : ByteArray) (v : PVal) : spelledB (docV nm v) = utf nm := by simp [docV, spelledB, utf_empty]
theorem few_int (n : Int) : fewB (intV n) = true := by simp [intV, fewB]
theorem few_null : fewB nullV = true := by simp [nullV, fewB]
theorem few_text (s : ByteArray) : fewB (textV s) = true := by simp [textV, fewB]
theorem few_list (l : List PVal) : fewB (listV l) = decide (l.length ≤ 32) := by simp [listV, fewB]
theorem few_doc (nm : ByteArray) (v : PVal) : fewB (docV nm v) = decide (1 ≤ nm.size ∧ nm.size ≤ 24) := by simp [docV, fewB]

theorem good_int (n : Int) (hn : I64 n) : (intV n).good = 0 := by
  have h := digits_le (turned n) (turned_lt hn)
  have hs : (intV n).size ≤ 2048 := by simp [intV, PVal.size]; omega
  simp only [PVal.good, all_int, formed_int, spelled_int, few_int]
  rw [show (intV n).depth = 0 by simp [intV, PVal.depth]]
  simp; omega
theorem good_text (s : ByteArray) (hs : s.size < 16384) : (textV s).good = if utf s = false then 11 else if s.size ≤ 2045 then 0 else 2 := by
  have hz : (textV s).size = 1 + (digits s.size + s.size) := by simp [textV, PVal.size]
  have hd : digits s.size = if s.size < 128 then 1 else 2 := by
    rw [digits]
    split
    · rfl
    · rw [digits_small (by omega)]
  simp only [PVal.good, all_text, formed_text, spelled_text, few_text]
  rw [show (textV s).depth = 0 by simp [textV, PVal.depth], hz, hd]
  cases hu : utf s
  · simp
  · simp
    split <;> split <;> split <;> omega
def nest : Nat → PVal
  | 0 => intV 1
  | k + 1 => listV [nest k]
theorem all_nest (p : PVal → Bool) (hl : ∀ l, l.length = 1 → p (listV l) = true) (hi : p (intV 1) = true) : ∀ k, (nest k).all p = true
  | 0 => by rw [nest, all_int, hi]
  | k + 1 => by rw [nest, all_list, hl _ rfl]; simp [all_nest p hl hi k]
theorem depth_nest : ∀ k, (nest k).depth = k
  | 0 => by simp [nest, intV, PVal.depth]
  | k + 1 => by rw [nest, listV, PVal.depth]; simp [depthL, depth_nest k]
theorem size_nest : ∀ k, (nest k).size = 2 + 2 * k
  | 0 => by simp [nest, intV, PVal.size, turned, digits_small]
  | k + 1 => by
    rw [nest, listV, PVal.size]; simp [sizeL, size_nest k, digits_small]; omega
theorem nodes_nest : ∀ k, (nest k).nodes = k + 1
  | 0 => by simp [nest, intV, PVal.nodes, nodesL]
  | k + 1 => by rw [nest, listV, PVal.nodes]; simp [nodesL, nodes_nest k]
theorem good_nest (k : Nat) (hk : k ≤ 100) : (nest k).good = if 8 < k then 3 else 0 := by
  simp only [PVal.good]
  rw [all_nest formedB (fun l _ => formed_list l) (formed_int 1), all_nest spelledB (fun l _ => spelled_list l) (spelled_int 1), all_nest fewB (fun l h => by rw [few_list, h]; rfl) (few_int 1), depth_nest, size_nest]
  simp; omega
theorem all_rep (p : PVal → Bool) (n : Nat) (h : p nullV = true) : (List.replicate n nullV).all (·.all p) = true := by
  simp [List.all_replicate, all_null, h]
theorem depthL_rep : ∀ n, depthL (List.replicate n nullV) = 0
  | 0 => rfl
  | n + 1 => by rw [List.replicate_succ, depthL, depthL_rep n]; simp [nullV, PVal.depth]
theorem sizeL_rep : ∀ n, sizeL (List.replicate n nullV) = n
  | 0 => rfl
  | n + 1 => by rw [List.replicate_succ, sizeL, sizeL_rep n]; simp [nullV, PVal.size]; omega
theorem nodesL_rep : ∀ n, nodesL (List.replicate n nullV) = n
  | 0 => rfl
  | n + 1 => by rw [List.replicate_succ, nodesL, nodesL_rep n]; simp [nullV, PVal.nodes, nodesL]; omega
theorem nodes_many (n : Nat) : (listV (List.replicate n nullV)).nodes = n + 1 := by simp [listV, PVal.nodes, nodesL, nodesL_rep]
theorem good_many (n : Nat) (hn : n ≤ 1000) : (listV (List.replicate n nullV)).good = if 32 < n then 15 else 0 := by
  simp only [PVal.good, all_list, formed_list, spelled_list, few_list, all_rep formedB n formed_null, all_rep spelledB n spelled_null, all_rep fewB n few_null, List.length_replicate]
  rw [show (listV (List.replicate n nullV)).depth = 1 by rw [listV, PVal.depth]; simp [depthL_rep],
    show (listV (List.replicate n nullV)).size = 1 + (digits n + n) by rw [listV, PVal.size]; simp [sizeL_rep]]
  have := digits_le n (by omega)
  by_cases h : n ≤ 32
  · simp [h]; omega
  · simp [h]
theorem good_named (nm : ByteArray) (hn : nm.size ≤ 1000) (hu : utf nm = true) : (docV nm (intV 1)).good = if nm.size < 1 ∨ 24 < nm.size then 15 else 0 := by
  simp only [PVal.good, all_doc, formed_doc, spelled_doc, few_doc, all_int, formed_int, spelled_int, few_int, hu]
  rw [show (docV nm (intV 1)).depth = 1 by rw [docV, PVal.depth]; simp [depthL, intV, PVal.depth],
    show (docV nm (intV 1)).size = 1 + (1 + (digits nm.size + nm.size) + 2) by rw [docV, PVal.size]; simp [sizeL, namesSize, intV, PVal.size, turned, digits_small]]
  have := digits_le nm.size (by omega)
  by_cases h : 1 ≤ nm.size ∧ nm.size ≤ 24
  · rw [if_neg (by omega : ¬ (nm.size < 1 ∨ 24 < nm.size))]
    simp [h]; omega
  · rw [if_pos (by omega : nm.size < 1 ∨ 24 < nm.size)]
    simp [h]

end Go.Proofs.YtihcegakghmdfaaDoor
