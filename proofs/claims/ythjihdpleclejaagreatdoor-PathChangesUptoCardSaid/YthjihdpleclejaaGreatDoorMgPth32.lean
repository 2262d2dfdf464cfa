/-
  Walks: Add, Push. No condition.
-/
import Derived.Test.YthjihdpleclejaaGreatDoorMgPth31
import Derived.Test.YthjihdpleclejaaGreatDoorMgPth21
namespace Go.Proofs.YthjihdpleclejaaGreatDoor
open Go.RowKit Go.Proofs
theorem toAdd_mass (m : Int) (y : PVal) : (toAdd m y).v.mass ≤ 32 := by
 unfold toAdd
 split
 ·simp [mass_zeroP]
 ·split
  ·simp [mass_zeroP]
  ·simp [intV, PVal.mass, massL, massF, ByteArray.size]
theorem massL_app : ∀ (a b : List PVal), massL (a ++ b) = massL a + massL b
 | [], b => by simp [massL]
 | x :: r, b => by rw [List.cons_append, massL, massL, massL_app r b]; omega
theorem toPush_mass (x y : PVal) : (toPush x y).v.mass ≤ y.mass + x.mass + 32 := by
 have h := mass_l y
 unfold toPush
 split
 ·simp only [mass_zeroP]; omega
 ·simp only [mass_listV, massL_app, massL]; omega
set_option maxRecDepth 100000 in
set_option maxHeartbeats 4000000 in
theorem add_calls (pa : ByteArray) (hpa : pa.size < 4294967281) (V : PVal) (m : Int) (hmr : -9223372036854775808 ≤ m ∧ m ≤ 9223372036854775807) (hm : V.mass ≤ 1073741824) {w : World} {cs : List Value} (hTb : Tabs w) (hM : Mx w) (hV : Rd w (Now w) V cs) :
  Calls Tryz.prog 16 #[.agg cs.toArray, .string pa, .int .i64 m] w (Done6 (addP V pa m) w) := by
 have hmf : ∀ (fn : Fn) (first cap : Array Value) (w : World), (Instr.makeFunc fn first cap).run Tryz.prog w = .ok (.func fn first cap) w := fun _ _ _ _ => rfl
 have hsf := fun (w : World) (a : Addr) (m : Mode) (fn : Fn) (first cap : Array Value) => run_store Tryz.prog w a (.func fn first cap) m rfl
 have hdn := hid (fun (W : World) (bx : Nat) (h : Below w.heap.size w W) (hb : W.heap[bx]? = some (.cells #[.int .i64 m] 2 (0, 0))) => there_calls (kf := 39) (caps := #[.pointer (some ⟨bx, 0, none⟩)]) (tf := toAdd m) (T := 1073741824) (enters_of Tryz.func39 (by kernel_rfl) rfl) pa hpa V [] hm (by omega) (by omega) (fun y hy => by have := toAdd_mass m y; omega) (fun x hx => by simp at hx)
  (fun W' h1 y w' cs' b h2 _ hy => add1_calls hmr hy (((h1.step h2).block _ (lt_of_block hb)).trans hb)) (Tabs.stays w W hTb h) (hM.stays h) (hV.later h) (aa := none) (ac := 0) rdL_nil)
 unfold addP
 obtain ⟨R, hR⟩ : ∃ R, R = thereP (toAdd m) V pa [] := ⟨_, rfl⟩
 rw [← hR] at hdn ⊢
 unfold Done6 at hdn ⊢
 clear hR hTb hM hm
 obtain ⟨rv, re⟩ := R
 obtain ⟨k, n, str, l, fn, fv⟩ := V
 obtain ⟨la, lc, fa, fc, rfl, _⟩ := hV.inv
 clear hV
 obtain ⟨W0, hW0⟩ : ∃ W0, W0 = ((w.alloc (.cells #[.int .i64 k, .int .i64 n, .string str, .slice la l.length lc, .slice fa fv.length fc] 25)).alloc (.cells #[.int .i64 m] 2)).alloc (.cells #[.int .i64 0, .int .i64 0, .string ⟨#[]⟩, .slice none 0 0, .slice none 0 0] 25) := ⟨_, rfl⟩
 have D : Hid (Below w.heap.size w W0) := by show Below _ _ _; rw [hW0]; exact ((below_new _ _).step (below_new _ _)).step (below_new _ _)
 have r0 : Hid (W0.heap[w.heap.size]? = some (.cells #[.int .i64 k, .int .i64 n, .string str, .slice la l.length lc, .slice fa fv.length fc] 25 (0, 0))) := by show _ = _; rw [hW0]; exact al_old (al_old (al_at rfl))
 have r1 : Hid (W0.heap[w.heap.size + 1]? = some (.cells #[.int .i64 m] 2 (0, 0))) := by show _ = _; rw [hW0]; exact al_old (al_at (by simp))
 have r2 : Hid (W0.heap[w.heap.size + 2]? = some (.cells #[.int .i64 0, .int .i64 0, .string ⟨#[]⟩, .slice none 0 0, .slice none 0 0] 25 (0, 0))) := by show _ = _; rw [hW0]; exact al_at (by simp)
 go_enter Tryz.func16, Tryz.ntmps16
 go_upto_region 1 with fail
 rw [← hW0]
 clear hW0
 have s0 := hid (al_old (o := .cells #[.func (.func 39) #[] #[.pointer (some ⟨w.heap.size + 1, 0, none⟩)], .bool false] 50) r0.out)
 have s1 := hid (al_old (o := .cells #[.func (.func 39) #[] #[.pointer (some ⟨w.heap.size + 1, 0, none⟩)], .bool false] 50) r1.out)
 have b0 := box_at (j := 0) s0.out rfl
 have b1 := box_at (j := 1) s0.out rfl
 have b2 := box_at (j := 2) s0.out rfl
 have b3 := box_at (j := 3) s0.out rfl
 have b4 := box_at (j := 4) s0.out rfl
 go_wp2_with fail
 clear b0 b1 b2 b3 b4
 have D1 := hid (D.out.step (below_new W0 (.cells #[.func (.func 39) #[] #[.pointer (some ⟨w.heap.size + 1, 0, none⟩)], .bool false] 50)))
 refine (hdn.out _ (w.heap.size + 1) D1.out s1.out).mono ?_
 rintro e w4 ⟨cs4, rfl, h4, hr4⟩
 obtain ⟨zk, zn, zt, zl, zfn, zfv⟩ := rv
 obtain ⟨qa, qc, pa', pc, rfl, _⟩ := hr4.inv
 have D4 := hid (D1.out.step h4)
 have o2 := hid ((h4.block _ (lt_of_block (al_old r2.out))).trans (al_old r2.out))
 have hW0s : Hid (w.heap.size + 2 < W0.heap.size) := lt_of_block r2.out
 have hr5 := hid (show Rd w4 (Free (W0.heap.size + 1) w4) _ _ from hr4.keep (fun c h => ⟨⟨by have := h.1.1; simp at this; omega, h.1.2⟩, h.2⟩) (fun _ _ => rfl))
 clear hr4 h4 hdn
 have c0 := box_at (j := 0) o2.out rfl
 have c1 := box_at (j := 1) o2.out rfl
 have c2 := box_at (j := 2) o2.out rfl
 have c3 := box_at (j := 3) o2.out rfl
 have c4 := box_at (j := 4) o2.out rfl
 have f0 := box_free o2.out
 go_wp2_with fail
 clear c0 c1 c2 c3 c4
 clear f0
 have hbz := hid (set5_below D4.out (Nat.le_add_right w.heap.size 2) (.int .i64 zk) (.int .i64 zn) (.string zt) (.slice qa zl.length qc) (.slice pa' zfv.length pc))
 have rz := hid (set5_box (u0 := .int .i64 zk) (u1 := .int .i64 zn) (u2 := .string zt) (u3 := .slice qa zl.length qc) (u4 := .slice pa' zfv.length pc) o2.out)
 have hkp := hid (fun b (hb : b ≠ w.heap.size + 2) => set5_other w4 (w.heap.size + 2) (.int .i64 zk) (.int .i64 zn) (.string zt) (.slice qa zl.length qc) (.slice pa' zfv.length pc) (b := b) hb)
 have hsz9 := hid (set5_size w4 (w.heap.size + 2) (.int .i64 zk) (.int .i64 zn) (.string zt) (.slice qa zl.length qc) (.slice pa' zfv.length pc))
 unfold set5 at hbz rz hkp hsz9
 generalize ((((w4.setCell ⟨w.heap.size + 2, 0, none⟩ (.int .i64 zk)).setCell ⟨w.heap.size + 2, 1, none⟩ (.int .i64 zn)).setCell ⟨w.heap.size + 2, 2, none⟩ (.string zt)).setCell ⟨w.heap.size + 2, 3, none⟩ (.slice qa zl.length qc)).setCell ⟨w.heap.size + 2, 4, none⟩ (.slice pa' zfv.length pc) = w9 at *
 have z0 := box_at (j := 0) rz.out rfl
 have z1 := box_at (j := 1) rz.out rfl
 have z2 := box_at (j := 2) rz.out rfl
 have z3 := box_at (j := 3) rz.out rfl
 have z4 := box_at (j := 4) rz.out rfl
 refine ⟨rfl, _, by simp [results, Tryz.results16, go_sem, z0, z1, z2, z3, z4] <;> exact ⟨rfl, rfl⟩, [.int .i64 zk, .int .i64 zn, .string zt, .slice qa zl.length qc, .slice pa' zfv.length pc], rfl, hbz.out, ?_⟩
 exact hr5.out.keep (fun c h => ⟨⟨by have := h.1.1; have := hW0s.out; omega, by rw [hsz9.out]; exact h.1.2⟩, Warm.keep (w := w4) h.2 (hkp.out c (by have := h.1.1; have := hW0s.out; omega))⟩) (fun c h => hkp.out c (by have := h.1.1; have := hW0s.out; omega))
set_option maxRecDepth 100000 in
set_option maxHeartbeats 4000000 in
theorem push_calls (pa : ByteArray) (hpa : pa.size < 4294967281) (V x : PVal) (hm : V.mass ≤ 33554432) (hmx : x.mass ≤ 33554432) {w : World} {cs xs : List Value} (hTb : Tabs w) (hM : Mx w) (hV : Rd w (Now w) V cs) (hx : Rd w (Now w) x xs) :
  Calls Tryz.prog 9 #[.agg cs.toArray, .string pa, .agg xs.toArray] w (Done6 (pushP V pa x) w) := by
 have hmf : ∀ (fn : Fn) (first cap : Array Value) (w : World), (Instr.makeFunc fn first cap).run Tryz.prog w = .ok (.func fn first cap) w := fun _ _ _ _ => rfl
 have hsf := fun (w : World) (a : Addr) (m : Mode) (fn : Fn) (first cap : Array Value) => run_store Tryz.prog w a (.func fn first cap) m rfl
 have hmxx : x.mass ≤ 1073741824 := by omega
 have hdn := hid (fun (W : World) (bx : Nat) (aa : Option Addr) (h : Below w.heap.size w W) (hb : W.heap[bx]? = some (.cells xs.toArray 25 (0, 0))) (hA : RdL W (Now W) [x] (.slice aa [x].length 1)) => there_calls (kf := 25) (caps := #[.pointer (some ⟨bx, 0, none⟩)]) (tf := toPush x) (T := 4294967296) (enters_of Tryz.func25 (by kernel_rfl) rfl) pa hpa V [x] (by omega) (by omega) (by omega) (fun y hy => by have := toPush_mass x y; omega) (by simpa using hmxx)
  (fun W' h1 y w' cs' b h2 hym hy => push1_calls (fun c hc => Nat.lt_of_lt_of_le hc h2.size) hym hy (hx.keep (fun c hc => Nat.lt_of_lt_of_le hc (h.step h1).size) (fun c hc => ((h.step h1).step h2).block c hc)) (((h1.step h2).block _ (lt_of_block hb)).trans hb)) (Tabs.stays w W hTb h) (hM.stays h) (hV.later h) hA)
 unfold pushP
 obtain ⟨R, hR⟩ : ∃ R, R = thereP (toPush x) V pa [x] := ⟨_, rfl⟩
 rw [← hR] at hdn ⊢
 unfold Done6 at hdn ⊢
 clear hR hTb hM hm hmx hmxx
 obtain ⟨rv, re⟩ := R
 obtain ⟨k, n, str, l, fn, fv⟩ := V
 obtain ⟨la, lc, fa, fc, rfl, _⟩ := hV.inv
 obtain ⟨xk, xn, xt, xl, xfn, xfv⟩ := x
 obtain ⟨ya, yc, za, zc, rfl, _⟩ := hx.inv
 replace hx := hid hx
 clear hV
 obtain ⟨W0, hW0⟩ : ∃ W0, W0 = ((w.alloc (.cells #[.int .i64 k, .int .i64 n, .string str, .slice la l.length lc, .slice fa fv.length fc] 25)).alloc (.cells #[.int .i64 xk, .int .i64 xn, .string xt, .slice ya xl.length yc, .slice za xfv.length zc] 25)).alloc (.cells #[.int .i64 0, .int .i64 0, .string ⟨#[]⟩, .slice none 0 0, .slice none 0 0] 25) := ⟨_, rfl⟩
 have D : Hid (Below w.heap.size w W0) := by show Below _ _ _; rw [hW0]; exact ((below_new _ _).step (below_new _ _)).step (below_new _ _)
 have r0 : Hid (W0.heap[w.heap.size]? = some (.cells #[.int .i64 k, .int .i64 n, .string str, .slice la l.length lc, .slice fa fv.length fc] 25 (0, 0))) := by show _ = _; rw [hW0]; exact al_old (al_old (al_at rfl))
 have r1 : Hid (W0.heap[w.heap.size + 1]? = some (.cells #[.int .i64 xk, .int .i64 xn, .string xt, .slice ya xl.length yc, .slice za xfv.length zc] 25 (0, 0))) := by show _ = _; rw [hW0]; exact al_old (al_at (by simp))
 have r2 : Hid (W0.heap[w.heap.size + 2]? = some (.cells #[.int .i64 0, .int .i64 0, .string ⟨#[]⟩, .slice none 0 0, .slice none 0 0] 25 (0, 0))) := by show _ = _; rw [hW0]; exact al_at (by simp)
 go_enter Tryz.func9, Tryz.ntmps9
 go_upto_region 1 with fail
 rw [← hW0]
 clear hW0
 have s0 := hid (al_old (o := .cells #[.func (.func 25) #[] #[.pointer (some ⟨w.heap.size + 1, 0, none⟩)], .bool false] 50) r0.out)
 have s1 := hid (al_old (o := .cells #[.func (.func 25) #[] #[.pointer (some ⟨w.heap.size + 1, 0, none⟩)], .bool false] 50) r1.out)
 have b0 := box_at (j := 0) s0.out rfl
 have b1 := box_at (j := 1) s0.out rfl
 have b2 := box_at (j := 2) s0.out rfl
 have b3 := box_at (j := 3) s0.out rfl
 have b4 := box_at (j := 4) s0.out rfl
 have c0 := box_at (j := 0) s1.out rfl
 have c1 := box_at (j := 1) s1.out rfl
 have c2 := box_at (j := 2) s1.out rfl
 have c3 := box_at (j := 3) s1.out rfl
 have c4 := box_at (j := 4) s1.out rfl
 go_wp2_with fail
 clear b0 b1 b2 b3 b4
 clear c0 c1 c2 c3 c4
 have D1 := hid (D.out.step ((below_new W0 (.cells #[.func (.func 25) #[] #[.pointer (some ⟨w.heap.size + 1, 0, none⟩)], .bool false] 50)).step (below_new _ (.cells #[.int .i64 xk, .int .i64 xn, .string xt, .slice ya xl.length yc, .slice za xfv.length zc] 25))))
 have hA := rdL_sole (w := (W0.alloc (.cells #[.func (.func 25) #[] #[.pointer (some ⟨w.heap.size + 1, 0, none⟩)], .bool false] 50)).alloc (.cells #[.int .i64 xk, .int .i64 xn, .string xt, .slice ya xl.length yc, .slice za xfv.length zc] 25)) (g := W0.heap.size + 1) (x := .mk xk xn xt xl xfn xfv) (xs := [.int .i64 xk, .int .i64 xn, .string xt, .slice ya xl.length yc, .slice za xfv.length zc]) (al_at (by simp)) (hx.out.keep (fun c hc => Nat.lt_of_lt_of_le hc D1.out.size) (fun c hc => D1.out.block c hc))
 refine (hdn.out _ (w.heap.size + 1) _ D1.out (al_old s1.out) hA).mono ?_
 rintro e w4 ⟨cs4, rfl, h4, hr4⟩
 obtain ⟨zk, zn, zt, zl, zfn, zfv⟩ := rv
 obtain ⟨qa, qc, pa', pc, rfl, _⟩ := hr4.inv
 have D4 := hid (D1.out.step h4)
 have o2 := hid ((h4.block _ (lt_of_block (al_old (al_old r2.out)))).trans (al_old (al_old r2.out)))
 have hW0s : Hid (w.heap.size + 2 < W0.heap.size) := lt_of_block r2.out
 have hr5 := hid (show Rd w4 (Free (W0.heap.size + 2) w4) _ _ from hr4.keep (fun c h => ⟨⟨by have := h.1.1; simp at this; omega, h.1.2⟩, h.2⟩) (fun _ _ => rfl))
 clear hr4 h4 hdn hA
 have c0 := box_at (j := 0) o2.out rfl
 have c1 := box_at (j := 1) o2.out rfl
 have c2 := box_at (j := 2) o2.out rfl
 have c3 := box_at (j := 3) o2.out rfl
 have c4 := box_at (j := 4) o2.out rfl
 have f0 := box_free o2.out
 go_wp2_with fail
 clear c0 c1 c2 c3 c4
 clear f0
 have hbz := hid (set5_below D4.out (Nat.le_add_right w.heap.size 2) (.int .i64 zk) (.int .i64 zn) (.string zt) (.slice qa zl.length qc) (.slice pa' zfv.length pc))
 have rz := hid (set5_box (u0 := .int .i64 zk) (u1 := .int .i64 zn) (u2 := .string zt) (u3 := .slice qa zl.length qc) (u4 := .slice pa' zfv.length pc) o2.out)
 have hkp := hid (fun b (hb : b ≠ w.heap.size + 2) => set5_other w4 (w.heap.size + 2) (.int .i64 zk) (.int .i64 zn) (.string zt) (.slice qa zl.length qc) (.slice pa' zfv.length pc) (b := b) hb)
 have hsz9 := hid (set5_size w4 (w.heap.size + 2) (.int .i64 zk) (.int .i64 zn) (.string zt) (.slice qa zl.length qc) (.slice pa' zfv.length pc))
 unfold set5 at hbz rz hkp hsz9
 generalize ((((w4.setCell ⟨w.heap.size + 2, 0, none⟩ (.int .i64 zk)).setCell ⟨w.heap.size + 2, 1, none⟩ (.int .i64 zn)).setCell ⟨w.heap.size + 2, 2, none⟩ (.string zt)).setCell ⟨w.heap.size + 2, 3, none⟩ (.slice qa zl.length qc)).setCell ⟨w.heap.size + 2, 4, none⟩ (.slice pa' zfv.length pc) = w9 at *
 have z0 := box_at (j := 0) rz.out rfl
 have z1 := box_at (j := 1) rz.out rfl
 have z2 := box_at (j := 2) rz.out rfl
 have z3 := box_at (j := 3) rz.out rfl
 have z4 := box_at (j := 4) rz.out rfl
 refine ⟨rfl, _, by simp [results, Tryz.results9, go_sem, z0, z1, z2, z3, z4] <;> exact ⟨rfl, rfl⟩, [.int .i64 zk, .int .i64 zn, .string zt, .slice qa zl.length qc, .slice pa' zfv.length pc], rfl, hbz.out, ?_⟩
 exact hr5.out.keep (fun c h => ⟨⟨by have := h.1.1; have := hW0s.out; omega, by rw [hsz9.out]; exact h.1.2⟩, Warm.keep (w := w4) h.2 (hkp.out c (by have := h.1.1; have := hW0s.out; omega))⟩) (fun c h => hkp.out c (by have := h.1.1; have := hW0s.out; omega))
end Go.Proofs.YthjihdpleclejaaGreatDoor
