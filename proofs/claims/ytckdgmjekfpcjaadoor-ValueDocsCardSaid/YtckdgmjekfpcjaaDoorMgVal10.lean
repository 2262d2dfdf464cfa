/-
  Walks: value.compare, Compare.
  Walks: value.Compare; the makers of values in the statements of layer 2.
-/
import Derived.Test.YtckdgmjekfpcjaaDoorMgVal8
import Derived.Test.YtckdgmjekfpcjaaDoorMgHel
import Derived.Deep.RegionWith
import Derived.Outline
namespace Go.Proofs.YtckdgmjekfpcjaaDoor
open Go.RowKit Go.Proofs

mutual
def cmpV : PVal → PVal → Int
  | .mk k n s l fn fv, .mk k' n' s' l' fn' fv' =>
    if icmp k k' ≠ 0 then icmp k k' else if cmpL l l' ≠ 0 then cmpL l l' else if cmpF fn fv fn' fv' ≠ 0 then cmpF fn fv fn' fv' else
      orI [icmp n n', scmp s s', icmp l.length l'.length, icmp fv.length fv'.length]
def cmpL : List PVal → List PVal → Int
  | x :: r, y :: r' => if cmpV x y ≠ 0 then cmpV x y else cmpL r r'
  | _, _ => 0
def cmpF : List ByteArray → List PVal → List ByteArray → List PVal → Int
  | a :: ar, x :: r, b :: br, y :: r' => if orI [scmp a b, cmpV x y] ≠ 0 then orI [scmp a b, cmpV x y] else cmpF ar r br r'
  | _, _, _, _ => 0
end
theorem drop_at {α : Type} {l : List α} {j : Nat} {x : α} (h : l[j]? = some x) : l.drop j = x :: l.drop (j + 1) := by
  obtain ⟨hj, rfl⟩ := List.getElem?_eq_some_iff.1 h
  exact List.drop_eq_getElem_cons hj
theorem cmpL_step {l l' : List PVal} {j : Nat} {x y : PVal} (h : l[j]? = some x) (h' : l'[j]? = some y) :
    cmpL (l.drop j) (l'.drop j) = if cmpV x y ≠ 0 then cmpV x y else cmpL (l.drop (j + 1)) (l'.drop (j + 1)) := by
  rw [drop_at h, drop_at h', cmpL]
theorem cmpF_step {fn fn' : List ByteArray} {l l' : List PVal} {j : Nat} {a b : ByteArray} {x y : PVal} (ha : fn[j]? = some a) (h : l[j]? = some x) (hb : fn'[j]? = some b) (h' : l'[j]? = some y) :
    cmpF (fn.drop j) (l.drop j) (fn'.drop j) (l'.drop j) = if orI [scmp a b, cmpV x y] ≠ 0 then orI [scmp a b, cmpV x y] else cmpF (fn.drop (j + 1)) (l.drop (j + 1)) (fn'.drop (j + 1)) (l'.drop (j + 1)) := by
  rw [drop_at h, drop_at h', drop_at ha, drop_at hb, cmpF]
theorem cmpF_end {fn fn' : List ByteArray} {l l' : List PVal} {j : Nat} (h : l.length ≤ j ∨ l'.length ≤ j) : cmpF (fn.drop j) (l.drop j) (fn'.drop j) (l'.drop j) = 0 := by
  rcases h with h | h
  · rw [List.drop_of_length_le h]; cases fn.drop j <;> simp [cmpF]
  · rw [List.drop_of_length_le h]; cases l.drop j <;> cases fn.drop j <;> cases fn'.drop j <;> simp [cmpF]
theorem cmpL_end {l l' : List PVal} {j : Nat} (h : l.length ≤ j ∨ l'.length ≤ j) : cmpL (l.drop j) (l'.drop j) = 0 := by
  rcases h with h | h
  · rw [List.drop_of_length_le h]; simp [cmpL]
  · rw [List.drop_of_length_le h]; cases l.drop j <;> simp [cmpL]

theorem or_cells (w : World) (xs : List Int) (t : TypeId) {cs : Array Value} (hc : cs = (xs.map (Value.int .i64)).toArray) :
    ∀ i, i < xs.length → (w.alloc (.cells cs t)).cell? ⟨w.heap.size, 0 + i, none⟩ = some (.int .i64 (xs.getD i 0)) := by
  intro i hi
  rw [Nat.zero_add, cell_of_row _ _ _ _ _ _ (heap_alloc_new w _), hc]
  simp [List.getD, List.getElem?_eq_getElem hi]

set_option maxRecDepth 100000 in
set_option maxHeartbeats 4000000 in
theorem compare_calls : ∀ (V V' : PVal) (w : World) (cs cs' : List Value), Rd w (Now w) V cs → Rd w (Now w) V' cs' →
    Calls Tryd.prog 24 #[.agg cs.toArray, .agg cs'.toArray] w fun e w' => e = .returned (.int .i64 (cmpV V V')) ∧ Below w.heap.size w w' := by
  intro V
  induction hN : V.nodes using Nat.strongRecOn generalizing V with
  | _ N ih =>
  subst hN
  intro V' w cs cs' hV hV'
  have hV0 := hid hV
  have hV0' := hid hV'
  obtain ⟨k, n, s, l, fn, fv⟩ := V
  obtain ⟨k', n', s', l', fn', fv'⟩ := V'
  obtain ⟨la, lc, fa, fc, rfl, hk, hn, hs, hlc, hlm, hfc, hfm, hL, hF⟩ := hV.inv
  obtain ⟨la', lc', fa', fc', rfl, hk', hn', hs', hlc', hlm', hfc', hfm', hL', hF'⟩ := hV'.inv
  clear hV hV'
  have hd : Hid (cmpV (.mk k n s l fn fv) (.mk k' n' s' l' fn' fv') = if icmp k k' ≠ 0 then icmp k k' else if cmpL l l' ≠ 0 then cmpL l l' else if cmpF fn fv fn' fv' ≠ 0 then cmpF fn fv fn' fv' else
      orI [icmp n n', scmp s s', icmp l.length l'.length, icmp fv.length fv'.length]) := by show _ = _; rw [cmpV]
  generalize cmpV (.mk k n s l fn fv) (.mk k' n' s' l' fn' fv') = R at *
  have hck := hid (fun w => cmp_int_calls k k' w)
  generalize hki : icmp k k' = K at *
  clear hki
  have hlen := hid hF.1
  have hlen' := hid hF'.1
  by_cases hK : K = 0
  · subst hK
    go_enter Tryd.func24, Tryd.ntmps24
    go_wp2_with fail
    refine (hck.out _).mono ?_
    rintro e w1 ⟨rfl, rfl⟩
    go_wp2_with fail
    go_loopg [25] (min l.length l'.length) (fun g i wr => ∃ j : Nat, g + j = min l.length l'.length ∧ i = .int .i64 j ∧ cmpL l l' = cmpL (l.drop j) (l'.drop j) ∧ Below ((w.alloc (.cells #[.int .i64 k, .int .i64 n, .string s, .slice la l.length lc, .slice fa fv.length fc] 27)).alloc (.cells #[.int .i64 k', .int .i64 n', .string s', .slice la' l'.length lc', .slice fa' fv'.length fc'] 27)).heap.size ((w.alloc (.cells #[.int .i64 k, .int .i64 n, .string s, .slice la l.length lc, .slice fa fv.length fc] 27)).alloc (.cells #[.int .i64 k', .int .i64 n', .string s', .slice la' l'.length lc', .slice fa' fv'.length fc'] 27)) wr)
    case atStart => exact ⟨0, by omega, rfl, by simp, Below.refl _ _⟩
    case round =>
      obtain ⟨j, hj, rfl, hcl, hbr⟩ := hrel
      have hcl := hid hcl
      obtain ⟨ka, kb⟩ := two_cells hbr
      have hbw : Below w.heap.size w wr := ((below_new w _).step (below_new _ _)).step hbr
      have hpr := hL.later hbw
      have hpr' := hL'.later hbw
      by_cases hlt : j < min l.length l'.length
      · obtain ⟨x, hx⟩ : ∃ x, l[j]? = some x := ⟨_, List.getElem?_eq_getElem (by omega)⟩
        obtain ⟨y, hy⟩ : ∃ y, l'[j]? = some y := ⟨_, List.getElem?_eq_getElem (by omega)⟩
        obtain ⟨b, off, xs, rfl, hxS, hxc, hxr⟩ := hpr.at_ hx
        obtain ⟨b', off', ys, rfl, hyS, hyc, hyr⟩ := hpr'.at_ hy
        have hxn := nodes_mem (List.mem_of_getElem? hx)
        have hst := hid (cmpL_step hx hy)
        have hcx := hid (fun (p : Later wr) => ih x.nodes (by simp only [PVal.nodes]; omega) x rfl y p.x xs ys (hxr.later p.h) (hyr.later p.h))
        generalize hcv : cmpV x y = c at *
        clear hcv hx hy hxn
        obtain ⟨xk, xn, xsx, xl, xfn, xfv⟩ := x
        obtain ⟨xla, xlc, xfa, xfc, rfl, _⟩ := hxr.inv
        obtain ⟨yk, yn, ysx, yl, yfn, yfv⟩ := y
        obtain ⟨yla, ylc, yfa, yfc, rfl, _⟩ := hyr.inv
        obtain ⟨c0, c1, c2, c3, c4⟩ := five hxc
        obtain ⟨d0, d1, d2, d3, d4⟩ := five hyc
        have A3 := Later.cell (ka 3 _ rfl)
        have B3 := Later.cell (kb 3 _ rfl)
        replace c0 := Later.cell c0
        replace c1 := Later.cell c1
        replace c2 := Later.cell c2
        replace c3 := Later.cell c3
        replace c4 := Later.cell c4
        replace d0 := Later.cell d0
        replace d1 := Later.cell d1
        replace d2 := Later.cell d2
        replace d3 := Later.cell d3
        replace d4 := Later.cell d4
        have i1 : (j : Int) < (l.length : Int) := by omega
        have i2 : (j : Int) < (l'.length : Int) := by omega
        clear hxc hyc ka kb
        go_wp2_with fail
        refine wp_later (by kernel_rfl) (by kernel_rfl) ?_
        repeat (go_big_quiet_step ((go_at_call 24; exact later_calls _ (hcx.out _))))
        refine wpQuiet_nil ?_
        intro _ hw'
        obtain ⟨p, hp⟩ := hw'
        subst hp
        clear A3 B3 c0 c1 c2 c3 c4 d0 d1 d2 d3 d4
        have hpb := hbr.step p.h
        go_wp2_with fail
        · have ht : (c != 0) = true := by assumption
          have hc0 : c ≠ 0 := by simpa using ht
          have he : Hid (R = c) := by
            show _ = _
            rw [hd.out, hcl.out, hst.out]; simp [hc0]
          go_ret
          exact ⟨by rw [he.out]; rfl, ((below_new w _).step (below_new _ _)).step hpb⟩
        · have ht : (c != 0) = false := by assumption
          have hc0 : c = 0 := by simpa using ht
          go_roundg (min l.length l'.length - (j + 1))
          case measure => omega
          case rel => exact ⟨j + 1, by omega, by go_num, by rw [hcl.out, hst.out]; simp [hc0], hpb⟩
      · have hz : Hid (cmpL l l' = 0) := by
          show _ = _
          rw [hcl.out]; exact cmpL_end (by omega)
        have a4 := ka 4 _ rfl
        have b4 := kb 4 _ rfl
        clear hcl hpr hpr'
        go_wp2_with fail
        clear a4 b4
        obtain ⟨wo, hwo⟩ : ∃ wo : World, wo = wr := ⟨_, rfl⟩
        subst hwo
        go_loopg [50] (min fv.length fv'.length) (fun g i wr => ∃ j : Nat, g + j = min fv.length fv'.length ∧ i = .int .i64 j ∧ cmpF fn fv fn' fv' = cmpF (fn.drop j) (fv.drop j) (fn'.drop j) (fv'.drop j) ∧ Below ((w.alloc (.cells #[.int .i64 k, .int .i64 n, .string s, .slice la l.length lc, .slice fa fv.length fc] 27)).alloc (.cells #[.int .i64 k', .int .i64 n', .string s', .slice la' l'.length lc', .slice fa' fv'.length fc'] 27)).heap.size ((w.alloc (.cells #[.int .i64 k, .int .i64 n, .string s, .slice la l.length lc, .slice fa fv.length fc] 27)).alloc (.cells #[.int .i64 k', .int .i64 n', .string s', .slice la' l'.length lc', .slice fa' fv'.length fc'] 27)) wr)
        case atStart => exact ⟨0, by omega, rfl, by simp, hbr⟩
        case round =>
          clear ka kb hbr hbw
          obtain ⟨j, hj, rfl, hcl, hbr⟩ := hrel
          have hcl := hid hcl
          obtain ⟨ka, kb⟩ := two_cells hbr
          have hbw : Below w.heap.size w wr := ((below_new w _).step (below_new _ _)).step hbr
          have hpr := hF.later hbw
          have hpr' := hF'.later hbw
          by_cases hlt : j < min fv.length fv'.length
          · obtain ⟨x, hx⟩ : ∃ x, fv[j]? = some x := ⟨_, List.getElem?_eq_getElem (by omega)⟩
            obtain ⟨y, hy⟩ : ∃ y, fv'[j]? = some y := ⟨_, List.getElem?_eq_getElem (by omega)⟩
            obtain ⟨nx, hnx⟩ : ∃ x, fn[j]? = some x := ⟨_, List.getElem?_eq_getElem (by rw [hlen.out]; omega)⟩
            obtain ⟨ny, hny⟩ : ∃ y, fn'[j]? = some y := ⟨_, List.getElem?_eq_getElem (by rw [hlen'.out]; omega)⟩
            obtain ⟨b, off, xs, rfl, hxS, hxc, hxr, _⟩ := hpr.at_ hnx hx
            obtain ⟨b', off', ys, rfl, hyS, hyc, hyr, _⟩ := hpr'.at_ hny hy
            have hxn := nodes_mem (List.mem_of_getElem? hx)
            have hst := hid (cmpF_step hnx hx hny hy)
            have hcx := hid (fun (p : Later wr) => ih x.nodes (by simp only [PVal.nodes]; omega) x rfl y p.x xs ys (hxr.later p.h) (hyr.later p.h))
            have hcs := hid (fun (p : Later wr) => Tryd.strings_Compare nx ny p.x)
            generalize hcv : cmpV x y = c at *
            have hsv : Hid (scmp nx ny = Lib.compareBytes nx.data.toList ny.data.toList) := rfl
            generalize Lib.compareBytes nx.data.toList ny.data.toList = sc at *
            rw [hsv.out] at hst
            clear hsv hcv hx hy hxn hnx hny
            obtain ⟨xk, xn, xsx, xl, xfn, xfv⟩ := x
            obtain ⟨xla, xlc, xfa, xfc, rfl, _⟩ := hxr.inv
            obtain ⟨yk, yn, ysx, yl, yfn, yfv⟩ := y
            obtain ⟨yla, ylc, yfa, yfc, rfl, _⟩ := hyr.inv
            obtain ⟨c0, c1, c2, c3, c4, c5⟩ := six hxc
            obtain ⟨d0, d1, d2, d3, d4, d5⟩ := six hyc
            have A4 := Later.cell (ka 4 _ rfl)
            have B4 := Later.cell (kb 4 _ rfl)
            replace c0 := Later.cell c0
            replace c1 := Later.cell c1
            replace c2 := Later.cell c2
            replace c3 := Later.cell c3
            replace c4 := Later.cell c4
            replace c5 := Later.cell c5
            replace d0 := Later.cell d0
            replace d1 := Later.cell d1
            replace d2 := Later.cell d2
            replace d3 := Later.cell d3
            replace d4 := Later.cell d4
            replace d5 := Later.cell d5
            have i1 : (j : Int) < (fv.length : Int) := by omega
            have i2 : (j : Int) < (fv'.length : Int) := by omega
            clear hxc hyc ka kb
            go_wp2_with fail
            refine wp_later_tail 26 (by kernel_rfl) (by kernel_rfl) ?_
            simp only [List.take_succ_cons, List.take_zero, List.drop_succ_cons, List.drop_zero]
            repeat (go_big_quiet_step ((first | (go_at_call 24; exact later_calls _ (hcx.out _)) | (go_at_call 18; exact later_same _ ((hcs.out _).mono fun _ _ h => ⟨h.1, h.2.symm⟩)))))
            refine wpQuiet_nil ?_
            intro _ hw'
            obtain ⟨p, hp⟩ := hw'
            subst hp
            clear A4 B4 c0 c1 c2 c3 c4 c5 d0 d1 d2 d3 d4 d5
            have hpb := hbr.step p.h
            go_wp2_with fail
            refine (or_int_calls [sc, c] (by simp) p.x.heap.size 2 _ (or_cells _ _ _ rfl)).mono ?_
            rintro e w2 ⟨rfl, rfl⟩
            have hpb2 := hpb.step (below_new p.x (.cells #[.int .i64 sc, .int .i64 c] 3))
            generalize orI [sc, c] = oc at *
            go_wp2_with fail
            · have ht : (oc != 0) = true := by assumption
              have hc0 : oc ≠ 0 := by simpa using ht
              have he : Hid (R = oc) := by
                show _ = _
                rw [hd.out, hz.out, hcl.out, hst.out]; simp [hc0]
              go_ret
              exact ⟨by rw [he.out]; rfl, ((below_new w _).step (below_new _ _)).step hpb2⟩
            · have ht : (oc != 0) = false := by assumption
              have hc0 : oc = 0 := by simpa using ht
              go_roundg (min fv.length fv'.length - (j + 1))
              case measure => omega
              case rel => exact ⟨j + 1, by omega, by go_num, by rw [hcl.out, hst.out]; simp [hc0], hpb2⟩
          · have hzf : Hid (cmpF fn fv fn' fv' = 0) := by
              show _ = _
              rw [hcl.out]; exact cmpF_end (by omega)
            have he : Hid (R = orI [icmp n n', scmp s s', icmp l.length l'.length, icmp fv.length fv'.length]) := by
              show _ = _
              rw [hd.out, hz.out, hzf.out]; simp
            have hsv : Hid (scmp s s' = Lib.compareBytes s.data.toList s'.data.toList) := rfl
            rw [hsv.out] at he
            have h1 := hid (fun (p : Later wr) => cmp_i64_calls n n' p.x)
            have h2 := hid (fun (p : Later wr) => Tryd.strings_Compare s s' p.x)
            have h3 := hid (fun (p : Later wr) => cmp_int_calls l.length l'.length p.x)
            have h4 := hid (fun (p : Later wr) => cmp_int_calls fv.length fv'.length p.x)
            generalize icmp n n' = r1 at *
            generalize Lib.compareBytes s.data.toList s'.data.toList = r2 at *
            generalize icmp l.length l'.length = r3 at *
            generalize icmp fv.length fv'.length = r4 at *
            have A1 := Later.cell (ka 1 _ rfl)
            have B1 := Later.cell (kb 1 _ rfl)
            have A2 := Later.cell (ka 2 _ rfl)
            have B2 := Later.cell (kb 2 _ rfl)
            have A3 := Later.cell (ka 3 _ rfl)
            have B3 := Later.cell (kb 3 _ rfl)
            have A4 := Later.cell (ka 4 _ rfl)
            have B4 := Later.cell (kb 4 _ rfl)
            clear hsv hpr hpr' ka kb hcl
            go_wp2_with fail
            refine wp_later_tail 24 (by kernel_rfl) (by kernel_rfl) ?_
            simp only [List.take_succ_cons, List.take_zero, List.drop_succ_cons, List.drop_zero]
            repeat (go_big_quiet_step ((first | (go_at_call 38; exact later_same _ (h1.out _)) | (go_at_call_of 36 l; exact later_same _ (h3.out _)) | (go_at_call_of 36 fv; exact later_same _ (h4.out _)) | (go_at_call 18; exact later_same _ ((h2.out _).mono fun _ _ h => ⟨h.1, h.2.symm⟩)))))
            refine wpQuiet_nil ?_
            intro _ hw'
            obtain ⟨p, hp⟩ := hw'
            subst hp
            clear A1 B1 A2 B2 A3 B3 A4 B4
            have hpb := hbr.step p.h
            go_wp2_with fail
            refine (or_int_calls [r1, r2, r3, r4] (by simp) p.x.heap.size 4 _ (or_cells _ _ _ rfl)).mono ?_
            rintro e w2 ⟨rfl, rfl⟩
            go_wp2_with fail
            go_ret
            exact ⟨by rw [he.out]; rfl, (((below_new w _).step (below_new _ _)).step hpb).step (below_new _ _)⟩
  · have hK' : (K != 0) = true := by simp [hK]
    have he : Hid (R = K) := by show _ = _; rw [hd.out]; simp [hK]
    go_enter Tryd.func24, Tryd.ntmps24
    go_wp2_with fail
    refine (hck.out _).mono ?_
    rintro e w1 ⟨rfl, rfl⟩
    go_wp2_with fail
    go_ret
    exact ⟨by rw [he.out]; rfl, (below_new _ _).step (below_new _ _)⟩
end Go.Proofs.YtckdgmjekfpcjaaDoor

namespace Go.Proofs.YtckdgmjekfpcjaaDoor
open Go.RowKit Go.Proofs

set_option maxRecDepth 100000 in
set_option maxHeartbeats 1000000 in
theorem compare_tells (V V' : PVal) (w : World) (cs cs' : List Value) (hN : V.nodes ≤ 20000) (hN' : V'.nodes ≤ 20000) (hT : Tabs w) (hV : Rd w (Now w) V cs) (hV' : Rd w (Now w) V' cs') :
    Calls Tryd.prog 11 #[.agg cs.toArray, .agg cs'.toArray] w fun e w' =>
      e = .returned (.tuple #[.int .i64 (if orI [V.good, V'.good] = 0 then cmpV V V' else 0), .int .i64 (orI [V.good, V'.good])]) ∧ Below w.heap.size w w' := by
  have hg := hid (fun w cs => good_calls V w cs hN)
  have hg' := hid (fun w cs => good_calls V' w cs hN')
  have hc := hid (compare_calls V V')
  have hT := hid hT
  have hV0 := hid hV
  have hV0' := hid hV'
  generalize V.good = G at *
  generalize V'.good = G' at *
  have ho := hid (fun b w hx => or_errno_calls [G, G'] (by simp) b 2 w hx)
  generalize cmpV V V' = C at *
  generalize orI [G, G'] = O at *
  obtain ⟨k, n, s, l, fn, fv⟩ := V
  obtain ⟨k', n', s', l', fn', fv'⟩ := V'
  obtain ⟨la, lc, fa, fc, rfl, _⟩ := hV.inv
  obtain ⟨la', lc', fa', fc', rfl, _⟩ := hV'.inv
  clear hV hV'
  have hbb := Below.refl (((w.alloc (.cells #[.int .i64 k, .int .i64 n, .string s, .slice la l.length lc, .slice fa fv.length fc] 27)).alloc (.cells #[.int .i64 k', .int .i64 n', .string s', .slice la' l'.length lc', .slice fa' fv'.length fc'] 27)).heap.size) ((w.alloc (.cells #[.int .i64 k, .int .i64 n, .string s, .slice la l.length lc, .slice fa fv.length fc] 27)).alloc (.cells #[.int .i64 k', .int .i64 n', .string s', .slice la' l'.length lc', .slice fa' fv'.length fc'] 27))
  obtain ⟨kA, kB⟩ := two_cells hbb
  have hb2 := (below_new w (.cells #[.int .i64 k, .int .i64 n, .string s, .slice la l.length lc, .slice fa fv.length fc] 27)).step (below_new (w.alloc (.cells #[.int .i64 k, .int .i64 n, .string s, .slice la l.length lc, .slice fa fv.length fc] 27)) (.cells #[.int .i64 k', .int .i64 n', .string s', .slice la' l'.length lc', .slice fa' fv'.length fc'] 27))
  have hA := hid (fun p : Later ((w.alloc (.cells #[.int .i64 k, .int .i64 n, .string s, .slice la l.length lc, .slice fa fv.length fc] 27)).alloc (.cells #[.int .i64 k', .int .i64 n', .string s', .slice la' l'.length lc', .slice fa' fv'.length fc'] 27)) => hg.out p.x _ (Tabs.stays _ _ hT.out (hb2.step p.h)) (hV0.out.later (hb2.step p.h)))
  have hB := hid (fun p : Later ((w.alloc (.cells #[.int .i64 k, .int .i64 n, .string s, .slice la l.length lc, .slice fa fv.length fc] 27)).alloc (.cells #[.int .i64 k', .int .i64 n', .string s', .slice la' l'.length lc', .slice fa' fv'.length fc'] 27)) => hg'.out p.x _ (Tabs.stays _ _ hT.out (hb2.step p.h)) (hV0'.out.later (hb2.step p.h)))
  have A0 := Later.cell (kA 0 _ rfl)
  have A1 := Later.cell (kA 1 _ rfl)
  have A2 := Later.cell (kA 2 _ rfl)
  have A3 := Later.cell (kA 3 _ rfl)
  have A4 := Later.cell (kA 4 _ rfl)
  have B0 := Later.cell (kB 0 _ rfl)
  have B1 := Later.cell (kB 1 _ rfl)
  have B2 := Later.cell (kB 2 _ rfl)
  have B3 := Later.cell (kB 3 _ rfl)
  have B4 := Later.cell (kB 4 _ rfl)
  clear hbb
  have kA := hid kA
  have kB := hid kB
  have hb2 := hid hb2
  go_enter Tryd.func11, Tryd.ntmps11
  go_wp2_with fail
  refine wp_later_tail 4 (by kernel_rfl) (by kernel_rfl) ?_
  simp only [List.take_succ_cons, List.take_zero, List.drop_succ_cons, List.drop_zero]
  repeat (go_big_quiet_step ((first | (go_at_call_of 19 fa; exact later_calls _ (hA.out _)) | (go_at_call_of 19 fa'; exact later_calls _ (hB.out _)))))
  refine wpQuiet_nil ?_
  intro _ hw'
  obtain ⟨p, hp⟩ := hw'
  subst hp
  clear A0 A1 A2 A3 A4 B0 B1 B2 B3 B4
  go_wp2_with fail
  refine (ho.out p.x.heap.size _ (or_cells _ [G, G'] _ rfl)).mono ?_
  rintro e w2 ⟨rfl, rfl⟩
  have hpb := hid ((hb2.out.step p.h).step (below_new p.x (.cells #[.int .i64 G, .int .i64 G'] 28)))
  have hpc := hid (p.h.trans ((below_new p.x (.cells #[.int .i64 G, .int .i64 G'] 28)).mono p.h.size))
  by_cases h0 : O = 0
  · subst h0
    obtain ⟨kA, kB⟩ := two_cells hpc.out
    have A0 := kA 0 _ rfl
    have A1 := kA 1 _ rfl
    have A2 := kA 2 _ rfl
    have A3 := kA 3 _ rfl
    have A4 := kA 4 _ rfl
    have B0 := kB 0 _ rfl
    have B1 := kB 1 _ rfl
    have B2 := kB 2 _ rfl
    have B3 := kB 3 _ rfl
    have B4 := kB 4 _ rfl
    go_wp2_with fail
    refine (hc.out _ _ _ (hV0.out.later hpb.out) (hV0'.out.later hpb.out)).mono ?_
    rintro e w3 ⟨rfl, hb3⟩
    go_wp2_with fail
    go_ret2
    exact ⟨rfl, hpb.out.step hb3⟩
  · have hG' : (O != 0) = true := by simp [h0]
    go_wp2_with fail
    go_ret2
    exact ⟨by simp only []; rfl, hpb.out⟩
end Go.Proofs.YtckdgmjekfpcjaaDoor
