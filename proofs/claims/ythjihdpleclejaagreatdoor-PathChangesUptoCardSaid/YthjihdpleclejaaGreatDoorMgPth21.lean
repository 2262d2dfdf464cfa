/-
  Walks: Set, and its closure.
-/
import Derived.Test.YthjihdpleclejaaGreatDoorMgPth20
namespace Go.Proofs.YthjihdpleclejaaGreatDoor
open Go.RowKit Go.Proofs
set_option maxRecDepth 100000 in
set_option maxHeartbeats 4000000 in
theorem set1_calls {S : Nat → Prop} {w : World} {x y : PVal} {b : Bool} {bx : Nat} {cs xs : List Value} (hS : ∀ c, S c → c < w.heap.size) (hy : Rd w S y cs) (hx : Rd w S x xs) (hb : w.heap[bx]? = some (.cells xs.toArray 25 (0, 0))) :
  Calls Tryz.prog 22 #[.agg cs.toArray, .bool b, .pointer (some ⟨bx, 0, none⟩)] w (Told S (toSet x y) w) := by
 unfold Told toSet
 obtain ⟨k, n, str, l, fn, fv⟩ := y
 obtain ⟨la, lc, fa, fc, rfl, _⟩ := hy.inv
 obtain ⟨xk, xn, xt, xl, xfn, xfv⟩ := x
 obtain ⟨ya, yc, za, zc, rfl, _⟩ := hx.inv
 replace hx := hid hx
 have hS0 := hid hS
 clear hy hS
 obtain ⟨W0, hW0⟩ : ∃ W0, W0 = (w.alloc (.cells #[.int .i64 k, .int .i64 n, .string str, .slice la l.length lc, .slice fa fv.length fc] 25)).alloc (.cells #[.int .i64 0, .int .i64 0, .string ⟨#[]⟩, .slice none 0 0, .slice none 0 0] 25) := ⟨_, rfl⟩
 have D : Hid (Below w.heap.size w W0) := by show Below _ _ _; rw [hW0]; exact (below_new _ _).step (below_new _ _)
 have r1 : Hid (W0.heap[w.heap.size + 1]? = some (.cells #[.int .i64 0, .int .i64 0, .string ⟨#[]⟩, .slice none 0 0, .slice none 0 0] 25 (0, 0))) := by show _ = _; rw [hW0]; exact al_at (by simp)
 have rx : Hid (W0.heap[bx]? = some (.cells #[.int .i64 xk, .int .i64 xn, .string xt, .slice ya xl.length yc, .slice za xfv.length zc] 25 (0, 0))) := (D.out.block _ (lt_of_block hb)).trans hb
 go_enter Tryz.func22, Tryz.ntmps22
 go_upto_region 1 with fail
 rw [← hW0]
 clear hW0 hb
 have b0 := box_at (j := 0) rx.out rfl
 have b1 := box_at (j := 1) rx.out rfl
 have b2 := box_at (j := 2) rx.out rfl
 have b3 := box_at (j := 3) rx.out rfl
 have b4 := box_at (j := 4) rx.out rfl
 have c0 := box_at (j := 0) r1.out rfl
 have c1 := box_at (j := 1) r1.out rfl
 have c2 := box_at (j := 2) r1.out rfl
 have c3 := box_at (j := 3) r1.out rfl
 have c4 := box_at (j := 4) r1.out rfl
 have f0 := box_free r1.out
 go_wp2_with fail
 clear b0 b1 b2 b3 b4
 clear c0 c1 c2 c3 c4
 clear f0
 have hbz := hid (set5_below D.out (Nat.le_succ _) (.int .i64 xk) (.int .i64 xn) (.string xt) (.slice ya xl.length yc) (.slice za xfv.length zc))
 have rz := hid (set5_box (u0 := .int .i64 xk) (u1 := .int .i64 xn) (u2 := .string xt) (u3 := .slice ya xl.length yc) (u4 := .slice za xfv.length zc) r1.out)
 have hkp := hid (fun b (hb : b ≠ w.heap.size + 1) => set5_other W0 (w.heap.size + 1) (.int .i64 xk) (.int .i64 xn) (.string xt) (.slice ya xl.length yc) (.slice za xfv.length zc) (b := b) hb)
 have hsz9 := hid (set5_size W0 (w.heap.size + 1) (.int .i64 xk) (.int .i64 xn) (.string xt) (.slice ya xl.length yc) (.slice za xfv.length zc))
 unfold set5 at hbz rz hkp hsz9
 generalize ((((W0.setCell ⟨w.heap.size + 1, 0, none⟩ (.int .i64 xk)).setCell ⟨w.heap.size + 1, 1, none⟩ (.int .i64 xn)).setCell ⟨w.heap.size + 1, 2, none⟩ (.string xt)).setCell ⟨w.heap.size + 1, 3, none⟩ (.slice ya xl.length yc)).setCell ⟨w.heap.size + 1, 4, none⟩ (.slice za xfv.length zc) = w9 at *
 have z0 := box_at (j := 0) rz.out rfl
 have z1 := box_at (j := 1) rz.out rfl
 have z2 := box_at (j := 2) rz.out rfl
 have z3 := box_at (j := 3) rz.out rfl
 have z4 := box_at (j := 4) rz.out rfl
 refine ⟨rfl, _, by simp [results, Tryz.results22, go_sem, z0, z1, z2, z3, z4] <;> exact ⟨rfl, rfl⟩, [.int .i64 xk, .int .i64 xn, .string xt, .slice ya xl.length yc, .slice za xfv.length zc], rfl, hbz.out, ?_⟩
 exact hx.out.keep (fun c h => .inl h) (fun c h => (hkp.out c (by have := hS0.out c h; omega)).trans (D.out.block c (hS0.out c h)))
theorem rdL_sole {w : World} {g : Nat} {x : PVal} {xs : List Value} {t : TypeId} (hg : w.heap[g]? = some (.cells xs.toArray t (0, 0))) (hx : Rd w (Now w) x xs) : RdL w (Now w) [x] (.slice (some ⟨g, 0, none⟩) [x].length 1) :=
  ⟨some ⟨g, 0, none⟩, 1, fun _ => xs, rfl, by simp, ⟨by omega, by simp⟩, .inr ⟨g, 0, rfl, lt_of_block hg, fun i hi j v hv => by
    obtain rfl : i = 0 := by simpa using hi
    rw [show 0 + 0 * 5 + j = j by omega]
    exact box_at hg (by simpa using hv)⟩, fun i y hy => by
    cases i with
    | zero => obtain rfl : x = y := by simpa using hy
              exact hx
    | succ i => simp at hy⟩
set_option maxRecDepth 100000 in
set_option maxHeartbeats 4000000 in
theorem set_calls (pa : ByteArray) (hpa : pa.size < 4294967281) (V x : PVal) (hm : V.mass ≤ 1073741824) (hmx : x.mass ≤ 1073741824) {w : World} {cs xs : List Value} (hTb : Tabs w) (hM : Mx w) (hV : Rd w (Now w) V cs) (hx : Rd w (Now w) x xs) :
  Calls Tryz.prog 7 #[.agg cs.toArray, .string pa, .agg xs.toArray] w (Done6 (setP V pa x) w) := by
 have hmf : ∀ (fn : Fn) (first cap : Array Value) (w : World), (Instr.makeFunc fn first cap).run Tryz.prog w = .ok (.func fn first cap) w := fun _ _ _ _ => rfl
 have hsf := fun (w : World) (a : Addr) (m : Mode) (fn : Fn) (first cap : Array Value) => run_store Tryz.prog w a (.func fn first cap) m rfl
 have hdn := hid (fun (W : World) (bx : Nat) (aa : Option Addr) (h : Below w.heap.size w W) (hb : W.heap[bx]? = some (.cells xs.toArray 25 (0, 0))) (hA : RdL W (Now W) [x] (.slice aa [x].length 1)) => done_calls (kf := 22) (caps := #[.pointer (some ⟨bx, 0, none⟩)]) (tf := toSet x) (lays := true) (T := 1073741824) (enters_of Tryz.func22 (by kernel_rfl) rfl) pa hpa V [x] hm (by omega) (by omega) (fun y _ => hmx) (by simpa using hmx)
  (fun y w' cs' b h2 _ hy => set1_calls (fun c hc => Nat.lt_of_lt_of_le hc h2.size) hy (hx.keep (fun c hc => Nat.lt_of_lt_of_le hc h.size) (fun c hc => (h.step h2).block c hc)) ((h2.block _ (lt_of_block hb)).trans hb)) (Tabs.stays w W hTb h) (hM.stays h) (hV.later h) hA)
 unfold setP
 obtain ⟨R, hR⟩ : ∃ R, R = doneP (toSet x) true V pa [x] := ⟨_, rfl⟩
 rw [← hR] at hdn ⊢
 unfold Done6 at hdn ⊢
 clear hR hTb hM hm hmx
 obtain ⟨rv, re⟩ := R
 obtain ⟨k, n, str, l, fn, fv⟩ := V
 obtain ⟨la, lc, fa, fc, rfl, _⟩ := hV.inv
 obtain ⟨xk, xn, xt, xl, xfn, xfv⟩ := x
 obtain ⟨ya, yc, za, zc, rfl, _⟩ := hx.inv
 replace hx := hid hx
 clear hV
 obtain ⟨W0, hW0⟩ : ∃ W0, W0 = ((w.alloc (.cells #[.int .i64 k, .int .i64 n, .string str, .slice la l.length lc, .slice fa fv.length fc] 25)).alloc (.cells #[.int .i64 xk, .int .i64 xn, .string xt, .slice ya xl.length yc, .slice za xfv.length zc] 25)).alloc (.cells #[.int .i64 0, .int .i64 0, .string ⟨#[]⟩, .slice none 0 0, .slice none 0 0] 25) := ⟨_, rfl⟩
 have D : Hid (Below w.heap.size w W0) := by show Below _ _ _; rw [hW0]; exact ((below_new _ _).step (below_new _ _)).step (below_new _ _)
 have r0 : Hid (W0.heap[w.heap.size]? = some (.cells #[.int .i64 k, .int .i64 n, .string str, .slice la l.length lc, .slice fa fv.length fc] 25 (0, 0))) := by show _ = _; rw [hW0]; exact al_old (al_old (al_at rfl))
 have r1 : Hid (W0.heap[w.heap.size + 1]? = some (.cells #[.int .i64 xk, .int .i64 xn, .string xt, .slice ya xl.length yc, .slice za xfv.length zc] 25 (0, 0))) := by show _ = _; rw [hW0]; exact al_old (al_at (by simp))
 have r2 : Hid (W0.heap[w.heap.size + 2]? = some (.cells #[.int .i64 0, .int .i64 0, .string ⟨#[]⟩, .slice none 0 0, .slice none 0 0] 25 (0, 0))) := by show _ = _; rw [hW0]; exact al_at (by simp)
 go_enter Tryz.func7, Tryz.ntmps7
 go_upto_region 1 with fail
 rw [← hW0]
 clear hW0
 have s0 := hid (al_old (o := .cells #[.func (.func 22) #[] #[.pointer (some ⟨w.heap.size + 1, 0, none⟩)], .bool true] 50) r0.out)
 have s1 := hid (al_old (o := .cells #[.func (.func 22) #[] #[.pointer (some ⟨w.heap.size + 1, 0, none⟩)], .bool true] 50) r1.out)
 have b0 := box_at (j := 0) s0.out rfl
 have b1 := box_at (j := 1) s0.out rfl
 have b2 := box_at (j := 2) s0.out rfl
 have b3 := box_at (j := 3) s0.out rfl
 have b4 := box_at (j := 4) s0.out rfl
 have c0 := box_at (j := 0) s1.out rfl
 have c1 := box_at (j := 1) s1.out rfl
 have c2 := box_at (j := 2) s1.out rfl
 have c3 := box_at (j := 3) s1.out rfl
 have c4 := box_at (j := 4) s1.out rfl
 go_wp2_with fail
 clear b0 b1 b2 b3 b4
 clear c0 c1 c2 c3 c4
 have D1 := hid (D.out.step ((below_new W0 (.cells #[.func (.func 22) #[] #[.pointer (some ⟨w.heap.size + 1, 0, none⟩)], .bool true] 50)).step (below_new _ (.cells #[.int .i64 xk, .int .i64 xn, .string xt, .slice ya xl.length yc, .slice za xfv.length zc] 25))))
 have hA := rdL_sole (w := (W0.alloc (.cells #[.func (.func 22) #[] #[.pointer (some ⟨w.heap.size + 1, 0, none⟩)], .bool true] 50)).alloc (.cells #[.int .i64 xk, .int .i64 xn, .string xt, .slice ya xl.length yc, .slice za xfv.length zc] 25)) (g := W0.heap.size + 1) (x := .mk xk xn xt xl xfn xfv) (xs := [.int .i64 xk, .int .i64 xn, .string xt, .slice ya xl.length yc, .slice za xfv.length zc]) (al_at (by simp)) (hx.out.keep (fun c hc => Nat.lt_of_lt_of_le hc D1.out.size) (fun c hc => D1.out.block c hc))
 refine (hdn.out _ (w.heap.size + 1) _ D1.out (al_old s1.out) hA).mono ?_
 rintro e w4 ⟨cs4, rfl, h4, hr4⟩
 obtain ⟨zk, zn, zt, zl, zfn, zfv⟩ := rv
 obtain ⟨qa, qc, pa', pc, rfl, _⟩ := hr4.inv
 have D4 := hid (D1.out.step h4)
 have o2 := hid ((h4.block _ (lt_of_block (al_old (al_old r2.out)))).trans (al_old (al_old r2.out)))
 have hW0s : Hid (w.heap.size + 2 < W0.heap.size) := lt_of_block r2.out
 have hr5 := hid (show Rd w4 (Free (W0.heap.size + 2) w4) _ _ from hr4.keep (fun c h => ⟨⟨by have := h.1.1; simp at this; omega, h.1.2⟩, h.2⟩) (fun _ _ => rfl))
 clear hr4 h4 hA hdn
 have c0 := box_at (j := 0) o2.out rfl
 have c1 := box_at (j := 1) o2.out rfl
 have c2 := box_at (j := 2) o2.out rfl
 have c3 := box_at (j := 3) o2.out rfl
 have c4 := box_at (j := 4) o2.out rfl
 have f0 := box_free o2.out
 go_wp2_with fail
 clear c0 c1 c2 c3 c4
 clear f0
 have hbz := hid (set5_below D4.out (Nat.le_add_right w.heap.size 2) (.int .i64 zk) (.int .i64 zn) (.string zt) (.slice qa zl.length qc) (.slice pa' zfv.length pc))
 have rz := hid (set5_box (u0 := .int .i64 zk) (u1 := .int .i64 zn) (u2 := .string zt) (u3 := .slice qa zl.length qc) (u4 := .slice pa' zfv.length pc) o2.out)
 have hkp := hid (fun b (hb : b ≠ w.heap.size + 2) => set5_other w4 (w.heap.size + 2) (.int .i64 zk) (.int .i64 zn) (.string zt) (.slice qa zl.length qc) (.slice pa' zfv.length pc) (b := b) hb)
 have hsz9 := hid (set5_size w4 (w.heap.size + 2) (.int .i64 zk) (.int .i64 zn) (.string zt) (.slice qa zl.length qc) (.slice pa' zfv.length pc))
 unfold set5 at hbz rz hkp hsz9
 generalize ((((w4.setCell ⟨w.heap.size + 2, 0, none⟩ (.int .i64 zk)).setCell ⟨w.heap.size + 2, 1, none⟩ (.int .i64 zn)).setCell ⟨w.heap.size + 2, 2, none⟩ (.string zt)).setCell ⟨w.heap.size + 2, 3, none⟩ (.slice qa zl.length qc)).setCell ⟨w.heap.size + 2, 4, none⟩ (.slice pa' zfv.length pc) = w9 at *
 have z0 := box_at (j := 0) rz.out rfl
 have z1 := box_at (j := 1) rz.out rfl
 have z2 := box_at (j := 2) rz.out rfl
 have z3 := box_at (j := 3) rz.out rfl
 have z4 := box_at (j := 4) rz.out rfl
 refine ⟨rfl, _, by simp [results, Tryz.results7, go_sem, z0, z1, z2, z3, z4] <;> exact ⟨rfl, rfl⟩, [.int .i64 zk, .int .i64 zn, .string zt, .slice qa zl.length qc, .slice pa' zfv.length pc], rfl, hbz.out, ?_⟩
 exact hr5.out.keep (fun c h => ⟨⟨by have := h.1.1; have := hW0s.out; omega, by rw [hsz9.out]; exact h.1.2⟩, Warm.keep (w := w4) h.2 (hkp.out c (by have := h.1.1; have := hW0s.out; omega))⟩) (fun c h => hkp.out c (by have := h.1.1; have := hW0s.out; omega))
end Go.Proofs.YthjihdpleclejaaGreatDoor
