/-
  Walks: value.Compare; the makers of values in the statements of layer 2.
-/
import Derived.Test.YtdjegpmjhfbamaaDoorVal10
import Derived.Outline
namespace Go.Proofs.YtdjegpmjhfbamaaDoor
open Go.RowKit Go.Proofs

set_option maxRecDepth 100000 in
set_option maxHeartbeats 1000000 in
theorem compare_tells (V V' : PVal) (w : World) (cs cs' : List Value) (hN : V.nodes ≤ 20000) (hN' : V'.nodes ≤ 20000) (hT : Tabs w) (hV : Rd w (Now w) V cs) (hV' : Rd w (Now w) V' cs') :
    Calls Tryd.prog 48 #[.agg cs.toArray, .agg cs'.toArray] w fun e w' =>
      e = .returned (.tuple #[.int .i64 (if orI [V.good, V'.good] = 0 then cmpV V V' else 0), .int .i64 (orI [V.good, V'.good])]) ∧ Below w.heap.size w w' := by
  have hg := hid (fun w cs => good_calls V w cs hN)
  have hg' := hid (fun w cs => good_calls V' w cs hN')
  have hc := hid (compare_calls V V')
  have hT := hid hT
  have hV0 := hid hV
  have hV0' := hid hV'
  generalize V.good = G at *
  generalize V'.good = G' at *
  have ho := hid (fun b w hx => or_errno_calls [G, G'] (by simp) b 2 w hx)
  generalize cmpV V V' = C at *
  generalize orI [G, G'] = O at *
  obtain ⟨k, n, s, l, fn, fv⟩ := V
  obtain ⟨k', n', s', l', fn', fv'⟩ := V'
  obtain ⟨la, lc, fa, fc, rfl, _⟩ := hV.inv
  obtain ⟨la', lc', fa', fc', rfl, _⟩ := hV'.inv
  clear hV hV'
  have hbb := Below.refl (((w.alloc (.cells #[.int .i64 k, .int .i64 n, .string s, .slice la l.length lc, .slice fa fv.length fc] 52)).alloc (.cells #[.int .i64 k', .int .i64 n', .string s', .slice la' l'.length lc', .slice fa' fv'.length fc'] 52)).heap.size) ((w.alloc (.cells #[.int .i64 k, .int .i64 n, .string s, .slice la l.length lc, .slice fa fv.length fc] 52)).alloc (.cells #[.int .i64 k', .int .i64 n', .string s', .slice la' l'.length lc', .slice fa' fv'.length fc'] 52))
  obtain ⟨kA, kB⟩ := two_cells hbb
  have hb2 := (below_new w (.cells #[.int .i64 k, .int .i64 n, .string s, .slice la l.length lc, .slice fa fv.length fc] 52)).step (below_new (w.alloc (.cells #[.int .i64 k, .int .i64 n, .string s, .slice la l.length lc, .slice fa fv.length fc] 52)) (.cells #[.int .i64 k', .int .i64 n', .string s', .slice la' l'.length lc', .slice fa' fv'.length fc'] 52))
  have hA := hid (fun p : Later ((w.alloc (.cells #[.int .i64 k, .int .i64 n, .string s, .slice la l.length lc, .slice fa fv.length fc] 52)).alloc (.cells #[.int .i64 k', .int .i64 n', .string s', .slice la' l'.length lc', .slice fa' fv'.length fc'] 52)) => hg.out p.x _ (Tabs.stays _ _ hT.out (hb2.step p.h)) (hV0.out.later (hb2.step p.h)))
  have hB := hid (fun p : Later ((w.alloc (.cells #[.int .i64 k, .int .i64 n, .string s, .slice la l.length lc, .slice fa fv.length fc] 52)).alloc (.cells #[.int .i64 k', .int .i64 n', .string s', .slice la' l'.length lc', .slice fa' fv'.length fc'] 52)) => hg'.out p.x _ (Tabs.stays _ _ hT.out (hb2.step p.h)) (hV0'.out.later (hb2.step p.h)))
  have A0 := Later.cell (kA 0 _ rfl)
  have A1 := Later.cell (kA 1 _ rfl)
  have A2 := Later.cell (kA 2 _ rfl)
  have A3 := Later.cell (kA 3 _ rfl)
  have A4 := Later.cell (kA 4 _ rfl)
  have B0 := Later.cell (kB 0 _ rfl)
  have B1 := Later.cell (kB 1 _ rfl)
  have B2 := Later.cell (kB 2 _ rfl)
  have B3 := Later.cell (kB 3 _ rfl)
  have B4 := Later.cell (kB 4 _ rfl)
  clear hbb
  have kA := hid kA
  have kB := hid kB
  have hb2 := hid hb2
  go_enter Tryd.func48, Tryd.ntmps48
  go_wp2_with fail
  refine wp_later_tail 4 (by kernel_rfl) (by kernel_rfl) ?_
  simp only [List.take_succ_cons, List.take_zero, List.drop_succ_cons, List.drop_zero]
  repeat (go_big_quiet_step ((first | (go_at_call_of 39 fa; exact later_calls _ (hA.out _)) | (go_at_call_of 39 fa'; exact later_calls _ (hB.out _)))))
  refine wpQuiet_nil ?_
  intro _ hw'
  obtain ⟨p, hp⟩ := hw'
  subst hp
  clear A0 A1 A2 A3 A4 B0 B1 B2 B3 B4
  go_wp2_with fail
  refine (ho.out p.x.heap.size _ (or_cells _ [G, G'] _ rfl)).mono ?_
  rintro e w2 ⟨rfl, rfl⟩
  have hpb := hid ((hb2.out.step p.h).step (below_new p.x (.cells #[.int .i64 G, .int .i64 G'] 22)))
  have hpc := hid (p.h.trans ((below_new p.x (.cells #[.int .i64 G, .int .i64 G'] 22)).mono p.h.size))
  by_cases h0 : O = 0
  · subst h0
    obtain ⟨kA, kB⟩ := two_cells hpc.out
    have A0 := kA 0 _ rfl
    have A1 := kA 1 _ rfl
    have A2 := kA 2 _ rfl
    have A3 := kA 3 _ rfl
    have A4 := kA 4 _ rfl
    have B0 := kB 0 _ rfl
    have B1 := kB 1 _ rfl
    have B2 := kB 2 _ rfl
    have B3 := kB 3 _ rfl
    have B4 := kB 4 _ rfl
    go_wp2_with fail
    refine (hc.out _ _ _ (hV0.out.later hpb.out) (hV0'.out.later hpb.out)).mono ?_
    rintro e w3 ⟨rfl, hb3⟩
    go_wp2_with fail
    go_ret2
    exact ⟨rfl, hpb.out.step hb3⟩
  · have hG' : (O != 0) = true := by simp [h0]
    go_wp2_with fail
    go_ret2
    exact ⟨by simp only []; rfl, hpb.out⟩
end Go.Proofs.YtdjegpmjhfbamaaDoor
