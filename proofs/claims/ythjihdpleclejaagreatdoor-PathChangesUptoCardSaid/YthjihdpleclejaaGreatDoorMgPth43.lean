/-
  Walk: the reference's With. No condition.
-/
import Derived.Test.YthjihdpleclejaaGreatDoorMgPth41
namespace Go.Proofs.YthjihdpleclejaaGreatDoor
open Go.RowKit Go.Proofs
theorem scmp_lt6 {a b : ByteArray} : (scmp a b < 0) ↔ Op.bytesLess a.toList b.toList = true := by
 rw [scmp_less]
 unfold blt
 cases h : Op.bytesLess a.toList b.toList with
 | true => simp
 | false => cases Op.bytesLess b.toList a.toList <;> simp
def WithS (g A : Nat) (vf vF : Value) (b o : Nat) (v0 v1 v2 v3 v4 v5 : Value) (x : World) : Prop := x.cell? ⟨g, 4, none⟩ = some vf ∧ x.cell? ⟨A, 4, none⟩ = some vF ∧ x.cell? ⟨b, o, none⟩ = some v0 ∧ x.cell? ⟨b, o + 1, none⟩ = some v1 ∧ x.cell? ⟨b, o + 2, none⟩ = some v2 ∧ x.cell? ⟨b, o + 3, none⟩ = some v3 ∧ x.cell? ⟨b, o + 4, none⟩ = some v4 ∧ x.cell? ⟨b, o + 5, none⟩ = some v5
theorem ne_lists {a b : ByteArray} (h : a ≠ b) : (a.toList == b.toList) = false := by
 cases hb : (a.toList == b.toList) with
 | false => rfl
 | true =>
  rw [ByteArray.toList_eq, ByteArray.toList_eq] at hb
  exact absurd (Go.WideShapes.bytes_inj (by simpa using hb)) h
set_option maxRecDepth 100000 in
set_option maxHeartbeats 8000000 in
theorem rwith_calls {S : Nat → Prop} (V x : PVal) (nm : ByteArray) (hnm : nm.size ≤ 140737488355328) (drop : Bool) {w : World} {cs xs : List Value} (hS : ∀ c, S c → c < w.heap.size) (hm : V.mass ≤ 100000000000) (hV : Rd w S V cs) (hx : Rd w S x xs) :
  Calls Tryz.prog 66 #[.agg cs.toArray, .string nm, .agg xs.toArray, .bool drop] w fun e w' => ∃ ys, e = .returned (.agg ys.toArray) ∧ Below w.heap.size w w' ∧ Rd w' (fun c => S c ∨ From w.heap.size w' c) (docL ((withR nm x drop V.fn V.fv).map Prod.fst) ((withR nm x drop V.fn V.fv).map Prod.snd)) ys := by
 obtain ⟨i0, hi, hz0, hz1, hz2⟩ := info_parts info_fldc
 have hlm := hid (show V.fv.length ≤ 100000000000 from by have h1 := len_massL V.fv; have h2 := mass_f V; omega)
 obtain ⟨WR, hWR⟩ : ∃ R, R = withR nm x drop V.fn V.fv := ⟨_, rfl⟩
 rw [← hWR]
 obtain ⟨k, n0, str, l, fn, fv⟩ := V
 simp only [PVal.fn, PVal.fv] at hlm hWR
 obtain ⟨la, lc, fa, fc, rfl, _, _, _, _, _, _, _, _, hFr⟩ := hV.inv
 have hfl := hid hFr.1
 have hF0 := hid hFr
 have xx := hid hx
 obtain ⟨uk, un, ut, ua, ul, uc, uf, um, ug, rfl⟩ := hx.five
 have hSw := hid hS
 replace hWR := hid hWR
 clear hV hx hS hm hFr
 obtain ⟨W0, hW0⟩ : ∃ W0, W0 = (((w.alloc (.cells #[.int .i64 k, .int .i64 n0, .string str, .slice la l.length lc, .slice fa fv.length fc] 25)).alloc (.cells #[.int .i64 uk, .int .i64 un, .string ut, .slice ua ul uc, .slice uf um ug] 25)).alloc (.cells #[.int .i64 0, .int .i64 0, .string ⟨#[]⟩, .slice none 0 0, .slice none 0 0] 25)).alloc (.cells #[.int .i64 6, .int .i64 0, .string ⟨#[]⟩, .slice none 0 0, .slice none 0 0] 25) := ⟨_, rfl⟩
 have D : Hid (Below w.heap.size w W0) := by show Below _ _ _; rw [hW0]; exact (((below_new _ _).step (below_new _ _)).step (below_new _ _)).step (below_new _ _)
 have r4 : Hid (W0.heap[w.heap.size]? = some (.cells #[.int .i64 k, .int .i64 n0, .string str, .slice la l.length lc, .slice fa fv.length fc] 25 (0, 0))) := by show _ = _; rw [hW0]; exact al_old (al_old (al_old (al_at rfl)))
 have r6 : Hid (W0.heap[w.heap.size + 1]? = some (.cells #[.int .i64 uk, .int .i64 un, .string ut, .slice ua ul uc, .slice uf um ug] 25 (0, 0))) := by show _ = _; rw [hW0]; exact al_old (al_old (al_at (by simp)))
 have r8 : Hid (W0.heap[w.heap.size + 2]? = some (.cells #[.int .i64 0, .int .i64 0, .string ⟨#[]⟩, .slice none 0 0, .slice none 0 0] 25 (0, 0))) := by show _ = _; rw [hW0]; exact al_old (al_at (by simp))
 have r9 : Hid (W0.heap[w.heap.size + 3]? = some (.cells #[.int .i64 6, .int .i64 0, .string ⟨#[]⟩, .slice none 0 0, .slice none 0 0] 25 (0, 0))) := by show _ = _; rw [hW0]; exact al_at (by simp)
 have hQ0 : Hid (WQ w W0 S (w.heap.size + 3) [] (.slice none 0 0) W0) := ⟨r9.out, OwnG.nil _, Nat.le_refl _, fun _ _ _ => rfl, rfl, rfl, rfl, by omega, lt_of_block r9.out⟩
 go_enter Tryz.func66, Tryz.ntmps66
 go_upto_region 2 with fail
 rw [← hW0]
 clear hW0 r9
 go_wp2_with fail
 go_loopg [10, 11] fv.length (fun gh d i wr => ∃ (j : Nat) (dn : Bool) (fs : List (ByteArray × PVal)) (vf : Value), gh + j = fv.length ∧ d = .bool dn ∧ i = .int .i64 j ∧ Hid (WR = fs ++ withR nm x dn (fn.drop j) (fv.drop j)) ∧ Hid (fs.length ≤ 2 * j + 1) ∧ Hid (WQ w W0 S (w.heap.size + 3) fs vf wr))
 case atStart => exact ⟨0, drop, [], _, by omega, rfl, rfl, by show _ = _; rw [hWR.out]; simp, by show _ ≤ _; simp, hQ0.out⟩
 case round =>
  clear hQ0 hWR
  obtain ⟨j, dn, fs, vf, hg, rfl, rfl, hW, hfs, hQ⟩ := hrel
  obtain ⟨va, vc, rfl, hvc⟩ := hQ.out.own.form
  have q4 := hid ((hQ.out.rest _ (lt_of_block r4.out) (by omega)).trans r4.out)
  have q6 := hid ((hQ.out.rest _ (lt_of_block r6.out) (by omega)).trans r6.out)
  have a4 := box_at (j := 4) q4.out rfl
  by_cases hlt : j < fv.length
  ·obtain ⟨a, ha⟩ : ∃ a, fn[j]? = some a := ⟨_, List.getElem?_eq_getElem (by rw [hfl.out]; exact hlt)⟩
   obtain ⟨y, hy⟩ : ∃ y, fv[j]? = some y := ⟨_, List.getElem?_eq_getElem hlt⟩
   obtain ⟨b, off, ys, rfl, hSb, hc, hry, haz⟩ := hF0.out.at_ ha hy
   obtain ⟨yk, yn, yt, ya, yl, yc, yf, ym, yg, rfl⟩ := hry.five
   have hdr : Hid (fn.drop j = a :: fn.drop (j + 1)) := by show _ = _; rw [List.drop_eq_getElem_cons (List.getElem?_eq_some_iff.1 ha).1, (List.getElem?_eq_some_iff.1 ha).2]
   have hdy : Hid (fv.drop j = y :: fv.drop (j + 1)) := by show _ = _; rw [List.drop_eq_getElem_cons hlt, (List.getElem?_eq_some_iff.1 hy).2]
   have hW2 := hW.out
   rw [hdr.out, hdy.out, withR] at hW2
   replace hW2 := hid hW2
   replace hc := hid hc
   replace hry := hid hry
   replace hSb := hid hSb
   clear ha hy q4 q6 hdr hdy hW
   have e1 : IntKind.i64.wrap ((j : Int) + 1) = (j : Int) + 1 := by rw [IntWalk.i64_in _ (by have := hlm.out; omega)]
   have q4 := hid ((hQ.out.rest _ (lt_of_block r4.out) (by omega)).trans r4.out)
   have q6 := hid ((hQ.out.rest _ (lt_of_block r6.out) (by omega)).trans r6.out)
   have hbW : Hid (wr.heap[b]? = w.heap[b]?) := (hQ.out.rest b (Nat.lt_of_lt_of_le (hSw.out b hSb.out) D.out.size) (by have := hSw.out b hSb.out; omega)).trans (D.out.block b (hSw.out b hSb.out))
   have k0 := (World.cell?_of_block (w := w) (a := ⟨b, off + j * 6, none⟩) hbW.out).trans (by simpa using hc.out 0 _ rfl)
   have k1 := (World.cell?_of_block (w := w) (a := ⟨b, off + j * 6 + 1, none⟩) hbW.out).trans (hc.out 1 _ rfl)
   have k2 := (World.cell?_of_block (w := w) (a := ⟨b, off + j * 6 + 2, none⟩) hbW.out).trans (hc.out 2 _ rfl)
   have k3 := (World.cell?_of_block (w := w) (a := ⟨b, off + j * 6 + 3, none⟩) hbW.out).trans (hc.out 3 _ rfl)
   have k4 := (World.cell?_of_block (w := w) (a := ⟨b, off + j * 6 + 4, none⟩) hbW.out).trans (hc.out 4 _ rfl)
   have k5 := (World.cell?_of_block (w := w) (a := ⟨b, off + j * 6 + 5, none⟩) hbW.out).trans (hc.out 5 _ rfl)
   cases dn with
   | true =>
    by_cases hab : a = nm
    ·have hne : (a.toList == nm.toList) = true := by rw [hab]; simp
     go_wp2_with fail
     go_roundg (fv.length - (j + 1))
     case measure => omega
     case rel => exact ⟨j + 1, true, fs, _, by omega, rfl, by go_num, by show _ = _; rw [hW2.out]; simp [hab], by have := hfs.out; show _ ≤ _; omega, hQ⟩
    ·have hne : (a.toList == nm.toList) = false := ne_lists hab
     go_upto_region 10 with fail
     have q9 := hid (hQ.out.row)
     have hSS : Hid (∀ x : World, (∀ c, c < W0.heap.size → x.heap[c]? = wr.heap[c]?) → WithS (w.heap.size + 3) w.heap.size (.slice va fs.length vc) (.slice (some ⟨b, off, none⟩) fv.length fc) b (off + j * 6) (.string a) (.int .i64 yk) (.int .i64 yn) (.string yt) (.slice ya yl yc) (.slice yf ym yg) x) := fun x h => by
      have h9 := (h _ hQ.out.hi).trans q9.out
      have h4 := (h _ (lt_of_block r4.out)).trans q4.out
      have hb := (h b (Nat.lt_of_lt_of_le (hSw.out b hSb.out) D.out.size)).trans hbW.out
      exact ⟨box_at h9 rfl, box_at h4 rfl, (World.cell?_of_block (w := w) (a := ⟨b, off + j * 6, none⟩) hb).trans (by simpa using hc.out 0 _ rfl), (World.cell?_of_block (w := w) (a := ⟨b, off + j * 6 + 1, none⟩) hb).trans (hc.out 1 _ rfl), (World.cell?_of_block (w := w) (a := ⟨b, off + j * 6 + 2, none⟩) hb).trans (hc.out 2 _ rfl), (World.cell?_of_block (w := w) (a := ⟨b, off + j * 6 + 3, none⟩) hb).trans (hc.out 3 _ rfl), (World.cell?_of_block (w := w) (a := ⟨b, off + j * 6 + 4, none⟩) hb).trans (hc.out 4 _ rfl), (World.cell?_of_block (w := w) (a := ⟨b, off + j * 6 + 5, none⟩) hb).trans (hc.out 5 _ rfl)⟩
     clear k0 k1 k2 k3 k4 k5
     refine wp_region_T (WithS (w.heap.size + 3) w.heap.size (.slice va fs.length vc) (.slice (some ⟨b, off, none⟩) fv.length fc) b (off + j * 6) (.string a) (.int .i64 yk) (.int .i64 yn) (.string yt) (.slice ya yl yc) (.slice yf ym yg)) 10 (by kernel_rfl) ?_
     have hq0 := hSS.out wr.drew (fun _ _ => rfl)
     ((refine wpAnyT_take (i := 0) (v := ?_) rfl (by kernel_rfl) (by kernel_rfl) (by kernel_rfl) (by kernel_rfl) (by exact fun _ _ _ h => h) (Or.inl ⟨by kernel_rfl, ?_⟩) hq0 ?_; rotate_left 1; focus (intro w hSw; unfold WithS at hSw; (try dsimp only at hSw); go_simp; try with_reducible rfl); (try simp only [List.getElem_toArray, List.getElem_cons_zero, List.getElem_cons_succ, Act.put, List.setIfInBounds_toArray, List.set_cons_zero, List.set_cons_succ])); (refine wpAnyT_take (i := 1) (v := ?_) rfl (by kernel_rfl) (by kernel_rfl) (by kernel_rfl) (by kernel_rfl) (by exact fun _ _ _ h => h) (Or.inl ⟨by kernel_rfl, ?_⟩) hq0 ?_; rotate_left 1; focus (intro w hSw; unfold WithS at hSw; (try dsimp only at hSw); go_simp; try with_reducible rfl); (try simp only [List.getElem_toArray, List.getElem_cons_zero, List.getElem_cons_succ, Act.put, List.setIfInBounds_toArray, List.set_cons_zero, List.set_cons_succ])); (refine wpAnyT_take (i := 2) (v := ?_) rfl (by kernel_rfl) (by kernel_rfl) (by kernel_rfl) (by kernel_rfl) (by exact fun _ _ _ h => h) (Or.inl ⟨by kernel_rfl, ?_⟩) hq0 ?_; rotate_left 1; focus (intro w hSw; unfold WithS at hSw; (try dsimp only at hSw); go_simp; try with_reducible rfl); (try simp only [List.getElem_toArray, List.getElem_cons_zero, List.getElem_cons_succ, Act.put, List.setIfInBounds_toArray, List.set_cons_zero, List.set_cons_succ])); (refine wpAnyT_take (i := 3) (v := ?_) rfl (by kernel_rfl) (by kernel_rfl) (by kernel_rfl) (by kernel_rfl) (by exact fun _ _ _ h => h) (Or.inl ⟨by kernel_rfl, ?_⟩) hq0 ?_; rotate_left 1; focus (intro w hSw; unfold WithS at hSw; (try dsimp only at hSw); go_simp; try with_reducible rfl); (try simp only [List.getElem_toArray, List.getElem_cons_zero, List.getElem_cons_succ, Act.put, List.setIfInBounds_toArray, List.set_cons_zero, List.set_cons_succ])); (refine wpAnyT_take (i := 4) (v := ?_) rfl (by kernel_rfl) (by kernel_rfl) (by kernel_rfl) (by kernel_rfl) (by exact fun _ _ _ h => h) (Or.inl ⟨by kernel_rfl, ?_⟩) hq0 ?_; rotate_left 1; focus (intro w hSw; unfold WithS at hSw; (try dsimp only at hSw); go_simp; try with_reducible rfl); (try simp only [List.getElem_toArray, List.getElem_cons_zero, List.getElem_cons_succ, Act.put, List.setIfInBounds_toArray, List.set_cons_zero, List.set_cons_succ])))
     obtain ⟨h0, h1, h2, h3, h4, h5, h6, h7⟩ := hq0
     refine wpAnyT_one (i := 5) (by kernel_rfl) rfl (fun K hK => ?_)
     go_simp
     (refine hK.out _ _ (fun _ => ⟨h0, h1, h2, h3, h4, h5, h6, h7⟩) (fun _ => ?_); clear hK K; (try simp only [Act.put, List.setIfInBounds_toArray, List.set_cons_zero, List.set_cons_succ]))
     refine wpAnyT_one (i := 6) (by kernel_rfl) rfl (fun K hK => ?_)
     go_simp
     (refine hK.out _ _ (fun _ => ⟨h0, h1, h2, h3, h4, h5, h6, h7⟩) (fun _ => ?_); clear hK K; (try simp only [Act.put, List.setIfInBounds_toArray, List.set_cons_zero, List.set_cons_succ]))
     clear h0 h1 h2 h3 h4 h5 h6 h7
     have E7 := hid ((Below.refl wr.heap.size wr).drew.step (below_new wr.drew (.cells #[.string a, .int .i64 yk, .int .i64 yn, .string yt, .slice ya yl yc, .slice yf ym yg] 54)))
     refine wpAnyT_one (i := 7) (by kernel_rfl) rfl (fun K hK => ?_)
     go_simp
     (refine hK.out _ _ (fun _ => hSS.out _ (fun c h => E7.out.block c (Nat.lt_of_lt_of_le h hQ.out.size))) (fun _ => ?_); clear hK K; (try simp only [Act.put, List.setIfInBounds_toArray, List.set_cons_zero, List.set_cons_succ]))
     refine wpAnyT_one (i := 8) (by kernel_rfl) rfl (fun K hK => ?_)
     refine step_append_g fldFix _ rfl _ _ 23 rfl W0.heap.size 0 54 96 i0 _ Tryz.underlying23 hi hz0 hz1 hz2 rfl (by decide) fs _ rfl (hQ.out.own.later fldFix E7.out) ⟨wr.heap.size, 0, none⟩ 1 [.string a, .int .i64 yk, .int .i64 yn, .string yt, .slice ya yl yc, .slice yf ym yg] (a, y) rfl (cells_new _ _ rfl _ _) ⟨_, rfl, haz, hry.out⟩ (by have := hfs.out; have := hlm.out; (try simp only [List.length_append, List.length_singleton]); omega) (by have := hfs.out; have := hlm.out; (try simp only [List.length_append, List.length_singleton]); unfold maxLen; omega) (Nat.le_trans hQ.out.size E7.out.size) ?_
     intro v8 w8 hown8 hg8 hlow8 hst8
     clear hlow8 hst8
     have hg9 : World.grownBy _ w8 (Value.ownBlock (.slice va fs.length vc)) := hg8
     have hp := hid (hQ.out.push E7.out hown8 hg9)
     have hk8 : Hid (∀ c, c < W0.heap.size → w8.heap[c]? = wr.heap[c]?) := fun c hc0 => (hg9.block c (Nat.lt_of_lt_of_le hc0 (Nat.le_trans hQ.out.size E7.out.size)) (fun e => by have := (hQ.out.own.lt c e.symm).1; omega)).trans (E7.out.block c (Nat.lt_of_lt_of_le hc0 hQ.out.size))
     obtain ⟨a8, n8, hv8, hc8⟩ := hown8.form
     subst hv8
     replace hp := hp.out
     simp only [List.length_append, List.length_singleton] at hp
     replace hp := hid hp
     have q8 := hid ((hk8.out _ hQ.out.hi).trans q9.out)
     clear hg8 hg9 hown8
     (refine hK.out _ _ (fun _ => hSS.out w8 hk8.out) (fun _ => ?_); clear hK K; (try simp only [Act.put, List.setIfInBounds_toArray]))
     refine wpAnyT_one (i := 9) (by kernel_rfl) rfl (fun K hK => ?_)
     go_simp
     (refine hK.out _ _ (fun _ => hSS.out w8 hk8.out) (fun _ => ?_); clear hK K; (try simp only [Act.put, List.setIfInBounds_toArray, List.set_cons_zero, List.set_cons_succ]))
     have c4 := box_at (j := 4) q8.out rfl
     have f0 := box_free q8.out
     refine wpAnyT_one (i := 10) (by kernel_rfl) rfl (fun K hK => ?_)
     go_simp
     (refine hK.out _ _ (fun h => absurd h (by decide)) (fun _ => ?_); clear hK K; (try simp only [Act.put, List.setIfInBounds_toArray]))
     clear c4 f0
     refine wpAnyT_done (by kernel_rfl) ?_ _
     go_wp2_with fail
     go_roundg (fv.length - (j + 1))
     case measure => omega
     case rel => exact ⟨j + 1, _, fs ++ [(a, y)], _, by omega, rfl, by go_num, by show _ = _; rw [hW2.out]; simp [hab], by have := hfs.out; show _ ≤ _; simp only [List.length_append, List.length_singleton]; omega, hp⟩
   | false =>
    by_cases hless : scmp a nm < 0
    ·have hle : Op.bytesLess a.toList nm.toList = true := scmp_lt6.1 hless
     have hab : a ≠ nm := scmp_ne hless
     have hl2 : Hid (¬ 0 ≤ scmp a nm) := by show ¬ _; omega
     have hne : (a.toList == nm.toList) = false := ne_lists hab
     go_upto_region 10 with fail
     have q9 := hid (hQ.out.row)
     have hSS : Hid (∀ x : World, (∀ c, c < W0.heap.size → x.heap[c]? = wr.heap[c]?) → WithS (w.heap.size + 3) w.heap.size (.slice va fs.length vc) (.slice (some ⟨b, off, none⟩) fv.length fc) b (off + j * 6) (.string a) (.int .i64 yk) (.int .i64 yn) (.string yt) (.slice ya yl yc) (.slice yf ym yg) x) := fun x h => by
      have h9 := (h _ hQ.out.hi).trans q9.out
      have h4 := (h _ (lt_of_block r4.out)).trans q4.out
      have hb := (h b (Nat.lt_of_lt_of_le (hSw.out b hSb.out) D.out.size)).trans hbW.out
      exact ⟨box_at h9 rfl, box_at h4 rfl, (World.cell?_of_block (w := w) (a := ⟨b, off + j * 6, none⟩) hb).trans (by simpa using hc.out 0 _ rfl), (World.cell?_of_block (w := w) (a := ⟨b, off + j * 6 + 1, none⟩) hb).trans (hc.out 1 _ rfl), (World.cell?_of_block (w := w) (a := ⟨b, off + j * 6 + 2, none⟩) hb).trans (hc.out 2 _ rfl), (World.cell?_of_block (w := w) (a := ⟨b, off + j * 6 + 3, none⟩) hb).trans (hc.out 3 _ rfl), (World.cell?_of_block (w := w) (a := ⟨b, off + j * 6 + 4, none⟩) hb).trans (hc.out 4 _ rfl), (World.cell?_of_block (w := w) (a := ⟨b, off + j * 6 + 5, none⟩) hb).trans (hc.out 5 _ rfl)⟩
     clear k0 k1 k2 k3 k4 k5
     refine wp_region_T (WithS (w.heap.size + 3) w.heap.size (.slice va fs.length vc) (.slice (some ⟨b, off, none⟩) fv.length fc) b (off + j * 6) (.string a) (.int .i64 yk) (.int .i64 yn) (.string yt) (.slice ya yl yc) (.slice yf ym yg)) 10 (by kernel_rfl) ?_
     have hq0 := hSS.out wr.drew (fun _ _ => rfl)
     ((refine wpAnyT_take (i := 0) (v := ?_) rfl (by kernel_rfl) (by kernel_rfl) (by kernel_rfl) (by kernel_rfl) (by exact fun _ _ _ h => h) (Or.inl ⟨by kernel_rfl, ?_⟩) hq0 ?_; rotate_left 1; focus (intro w hSw; unfold WithS at hSw; (try dsimp only at hSw); go_simp; try with_reducible rfl); (try simp only [List.getElem_toArray, List.getElem_cons_zero, List.getElem_cons_succ, Act.put, List.setIfInBounds_toArray, List.set_cons_zero, List.set_cons_succ])); (refine wpAnyT_take (i := 1) (v := ?_) rfl (by kernel_rfl) (by kernel_rfl) (by kernel_rfl) (by kernel_rfl) (by exact fun _ _ _ h => h) (Or.inl ⟨by kernel_rfl, ?_⟩) hq0 ?_; rotate_left 1; focus (intro w hSw; unfold WithS at hSw; (try dsimp only at hSw); go_simp; try with_reducible rfl); (try simp only [List.getElem_toArray, List.getElem_cons_zero, List.getElem_cons_succ, Act.put, List.setIfInBounds_toArray, List.set_cons_zero, List.set_cons_succ])); (refine wpAnyT_take (i := 2) (v := ?_) rfl (by kernel_rfl) (by kernel_rfl) (by kernel_rfl) (by kernel_rfl) (by exact fun _ _ _ h => h) (Or.inl ⟨by kernel_rfl, ?_⟩) hq0 ?_; rotate_left 1; focus (intro w hSw; unfold WithS at hSw; (try dsimp only at hSw); go_simp; try with_reducible rfl); (try simp only [List.getElem_toArray, List.getElem_cons_zero, List.getElem_cons_succ, Act.put, List.setIfInBounds_toArray, List.set_cons_zero, List.set_cons_succ])); (refine wpAnyT_take (i := 3) (v := ?_) rfl (by kernel_rfl) (by kernel_rfl) (by kernel_rfl) (by kernel_rfl) (by exact fun _ _ _ h => h) (Or.inl ⟨by kernel_rfl, ?_⟩) hq0 ?_; rotate_left 1; focus (intro w hSw; unfold WithS at hSw; (try dsimp only at hSw); go_simp; try with_reducible rfl); (try simp only [List.getElem_toArray, List.getElem_cons_zero, List.getElem_cons_succ, Act.put, List.setIfInBounds_toArray, List.set_cons_zero, List.set_cons_succ])); (refine wpAnyT_take (i := 4) (v := ?_) rfl (by kernel_rfl) (by kernel_rfl) (by kernel_rfl) (by kernel_rfl) (by exact fun _ _ _ h => h) (Or.inl ⟨by kernel_rfl, ?_⟩) hq0 ?_; rotate_left 1; focus (intro w hSw; unfold WithS at hSw; (try dsimp only at hSw); go_simp; try with_reducible rfl); (try simp only [List.getElem_toArray, List.getElem_cons_zero, List.getElem_cons_succ, Act.put, List.setIfInBounds_toArray, List.set_cons_zero, List.set_cons_succ])))
     obtain ⟨h0, h1, h2, h3, h4, h5, h6, h7⟩ := hq0
     refine wpAnyT_one (i := 5) (by kernel_rfl) rfl (fun K hK => ?_)
     go_simp
     (refine hK.out _ _ (fun _ => ⟨h0, h1, h2, h3, h4, h5, h6, h7⟩) (fun _ => ?_); clear hK K; (try simp only [Act.put, List.setIfInBounds_toArray, List.set_cons_zero, List.set_cons_succ]))
     refine wpAnyT_one (i := 6) (by kernel_rfl) rfl (fun K hK => ?_)
     go_simp
     (refine hK.out _ _ (fun _ => ⟨h0, h1, h2, h3, h4, h5, h6, h7⟩) (fun _ => ?_); clear hK K; (try simp only [Act.put, List.setIfInBounds_toArray, List.set_cons_zero, List.set_cons_succ]))
     clear h0 h1 h2 h3 h4 h5 h6 h7
     have E7 := hid ((Below.refl wr.heap.size wr).drew.step (below_new wr.drew (.cells #[.string a, .int .i64 yk, .int .i64 yn, .string yt, .slice ya yl yc, .slice yf ym yg] 54)))
     refine wpAnyT_one (i := 7) (by kernel_rfl) rfl (fun K hK => ?_)
     go_simp
     (refine hK.out _ _ (fun _ => hSS.out _ (fun c h => E7.out.block c (Nat.lt_of_lt_of_le h hQ.out.size))) (fun _ => ?_); clear hK K; (try simp only [Act.put, List.setIfInBounds_toArray, List.set_cons_zero, List.set_cons_succ]))
     refine wpAnyT_one (i := 8) (by kernel_rfl) rfl (fun K hK => ?_)
     refine step_append_g fldFix _ rfl _ _ 23 rfl W0.heap.size 0 54 96 i0 _ Tryz.underlying23 hi hz0 hz1 hz2 rfl (by decide) fs _ rfl (hQ.out.own.later fldFix E7.out) ⟨wr.heap.size, 0, none⟩ 1 [.string a, .int .i64 yk, .int .i64 yn, .string yt, .slice ya yl yc, .slice yf ym yg] (a, y) rfl (cells_new _ _ rfl _ _) ⟨_, rfl, haz, hry.out⟩ (by have := hfs.out; have := hlm.out; (try simp only [List.length_append, List.length_singleton]); omega) (by have := hfs.out; have := hlm.out; (try simp only [List.length_append, List.length_singleton]); unfold maxLen; omega) (Nat.le_trans hQ.out.size E7.out.size) ?_
     intro v8 w8 hown8 hg8 hlow8 hst8
     clear hlow8 hst8
     have hg9 : World.grownBy _ w8 (Value.ownBlock (.slice va fs.length vc)) := hg8
     have hp := hid (hQ.out.push E7.out hown8 hg9)
     have hk8 : Hid (∀ c, c < W0.heap.size → w8.heap[c]? = wr.heap[c]?) := fun c hc0 => (hg9.block c (Nat.lt_of_lt_of_le hc0 (Nat.le_trans hQ.out.size E7.out.size)) (fun e => by have := (hQ.out.own.lt c e.symm).1; omega)).trans (E7.out.block c (Nat.lt_of_lt_of_le hc0 hQ.out.size))
     obtain ⟨a8, n8, hv8, hc8⟩ := hown8.form
     subst hv8
     replace hp := hp.out
     simp only [List.length_append, List.length_singleton] at hp
     replace hp := hid hp
     have q8 := hid ((hk8.out _ hQ.out.hi).trans q9.out)
     clear hg8 hg9 hown8
     (refine hK.out _ _ (fun _ => hSS.out w8 hk8.out) (fun _ => ?_); clear hK K; (try simp only [Act.put, List.setIfInBounds_toArray]))
     refine wpAnyT_one (i := 9) (by kernel_rfl) rfl (fun K hK => ?_)
     go_simp
     (refine hK.out _ _ (fun _ => hSS.out w8 hk8.out) (fun _ => ?_); clear hK K; (try simp only [Act.put, List.setIfInBounds_toArray, List.set_cons_zero, List.set_cons_succ]))
     have c4 := box_at (j := 4) q8.out rfl
     have f0 := box_free q8.out
     refine wpAnyT_one (i := 10) (by kernel_rfl) rfl (fun K hK => ?_)
     go_simp
     (refine hK.out _ _ (fun h => absurd h (by decide)) (fun _ => ?_); clear hK K; (try simp only [Act.put, List.setIfInBounds_toArray]))
     clear c4 f0
     refine wpAnyT_done (by kernel_rfl) ?_ _
     go_wp2_with fail
     go_roundg (fv.length - (j + 1))
     case measure => omega
     case rel => exact ⟨j + 1, _, fs ++ [(a, y)], _, by omega, rfl, by go_num, by (have hl3 : ¬ 0 ≤ scmp a nm := (by have := hl2.out; omega)); show _ = _; rw [hW2.out]; simp [hab, hl3], by have := hfs.out; show _ ≤ _; simp only [List.length_append, List.length_singleton]; omega, hp⟩
    ·have hle : Op.bytesLess a.toList nm.toList = false := by
      cases hb : Op.bytesLess a.toList nm.toList with
      | false => rfl
      | true => exact absurd (scmp_lt6.2 hb) hless
     have hl2 : Hid (0 ≤ scmp a nm) := by show _ ≤ _; omega
     have x0 := box_at (j := 0) q6.out rfl
     have x1 := box_at (j := 1) q6.out rfl
     have x2 := box_at (j := 2) q6.out rfl
     have x3 := box_at (j := 3) q6.out rfl
     have x4 := box_at (j := 4) q6.out rfl
     have q9 := hid (hQ.out.row)
     have f9 := hQ.out.hi
     have d4 := box_at (j := 4) q9.out rfl
     go_upto_region 8 with (at_builtin; (refine wpList_append_g fldFix _ rfl (.tmp 34) (.tmp 38) 23 rfl W0.heap.size 0 54 96 i0 (Value.agg #[.string ByteArray.empty, .int .i64 0, .int .i64 0, .string ByteArray.empty, .slice none 0 0, .slice none 0 0]) Tryz.underlying23 hi hz0 hz1 hz2 rfl (by decide) fs _ rfl (hQ.out.own.later fldFix (below_new wr (.cells #[.string nm, .int .i64 uk, .int .i64 un, .string ut, .slice ua ul uc, .slice uf um ug] 54))) ⟨wr.heap.size, 0, none⟩ 1 [.string nm, .int .i64 uk, .int .i64 un, .string ut, .slice ua ul uc, .slice uf um ug] (nm, x) rfl (cells_new _ _ rfl _ _) ⟨_, rfl, hnm, xx.out⟩ (by have := hfs.out; have := hlm.out; omega) (by have := hfs.out; have := hlm.out; unfold maxLen; omega) (Nat.le_trans hQ.out.size (below_new wr (.cells #[.string nm, .int .i64 uk, .int .i64 un, .string ut, .slice ua ul uc, .slice uf um ug] 54)).size) ?_); intro v8 w8 hown8 hg8 hlow8 hst8; clear hlow8 hst8; have hp := hid (hQ.out.push (below_new wr (.cells #[.string nm, .int .i64 uk, .int .i64 un, .string ut, .slice ua ul uc, .slice uf um ug] 54)) hown8 hg8); have q8 := hid ((hg8.block _ (Nat.lt_of_lt_of_le (lt_of_block q9.out) (below_new wr (.cells #[.string nm, .int .i64 uk, .int .i64 un, .string ut, .slice ua ul uc, .slice uf um ug] 54)).size) (fun e => by have := (hQ.out.own.lt _ e.symm).1; omega)).trans ((below_new wr (.cells #[.string nm, .int .i64 uk, .int .i64 un, .string ut, .slice ua ul uc, .slice uf um ug] 54)).block _ (lt_of_block q9.out) |>.trans q9.out)); clear d4; have c4 := box_at (j := 4) q8.out rfl; have f0 := box_free q8.out; obtain ⟨a8, n8, hv8, hc8⟩ := hown8.form; subst hv8; clear hg8 hown8; replace hp := hp.out; simp only [List.length_append, List.length_singleton] at hp; replace hp := hid hp)
     clear c4 f0
     obtain ⟨wt, hwt⟩ : ∃ x, x = w8.setCell ⟨w.heap.size + 1 + 1 + 1, 4, none⟩ (.slice a8 (fs.length + 1) n8) := ⟨_, rfl⟩
     have hQt : Hid (WQ w W0 S (w.heap.size + 3) (fs ++ [(nm, x)]) (.slice a8 (fs.length + 1) n8) wt) := by show WQ _ _ _ _ _ _ _; rw [hwt]; exact hp.out
     rw [← hwt]
     clear hwt hp q8
     clear x0 x1 x2 x3 x4 a4 k0 k1 k2 k3 k4 k5 hle q9 f9 q4 q6 hbW
     have q4 := hid ((hQt.out.rest _ (lt_of_block r4.out) (by omega)).trans r4.out)
     have q6 := hid ((hQt.out.rest _ (lt_of_block r6.out) (by omega)).trans r6.out)
     have hbW : Hid (wt.heap[b]? = w.heap[b]?) := (hQt.out.rest b (Nat.lt_of_lt_of_le (hSw.out b hSb.out) D.out.size) (by have := hSw.out b hSb.out; omega)).trans (D.out.block b (hSw.out b hSb.out))
     have k0 := (World.cell?_of_block (w := w) (a := ⟨b, off + j * 6, none⟩) hbW.out).trans (by simpa using hc.out 0 _ rfl)
     have k1 := (World.cell?_of_block (w := w) (a := ⟨b, off + j * 6 + 1, none⟩) hbW.out).trans (hc.out 1 _ rfl)
     have k2 := (World.cell?_of_block (w := w) (a := ⟨b, off + j * 6 + 2, none⟩) hbW.out).trans (hc.out 2 _ rfl)
     have k3 := (World.cell?_of_block (w := w) (a := ⟨b, off + j * 6 + 3, none⟩) hbW.out).trans (hc.out 3 _ rfl)
     have k4 := (World.cell?_of_block (w := w) (a := ⟨b, off + j * 6 + 4, none⟩) hbW.out).trans (hc.out 4 _ rfl)
     have k5 := (World.cell?_of_block (w := w) (a := ⟨b, off + j * 6 + 5, none⟩) hbW.out).trans (hc.out 5 _ rfl)
     have a4 := box_at (j := 4) q4.out rfl
     by_cases hab : a = nm
     ·have hne : (a.toList == nm.toList) = true := by rw [hab]; simp
      go_wp2_with fail
      go_roundg (fv.length - (j + 1))
      case measure => omega
      case rel => exact ⟨j + 1, true, fs ++ [(nm, x)], _, by omega, rfl, by go_num, by show _ = _; rw [hW2.out]; simp [hab, scmp_self], by have := hfs.out; show _ ≤ _; simp only [List.length_append, List.length_singleton]; omega, hQt⟩
     ·have hne : (a.toList == nm.toList) = false := ne_lists hab
      go_upto_region 10 with fail
      have q9 := hid (hQt.out.row)
      have hSS : Hid (∀ x : World, (∀ c, c < W0.heap.size → x.heap[c]? = wt.heap[c]?) → WithS (w.heap.size + 3) w.heap.size (.slice a8 (fs.length + 1) n8) (.slice (some ⟨b, off, none⟩) fv.length fc) b (off + j * 6) (.string a) (.int .i64 yk) (.int .i64 yn) (.string yt) (.slice ya yl yc) (.slice yf ym yg) x) := fun x h => by
       have h9 := (h _ hQt.out.hi).trans q9.out
       have h4 := (h _ (lt_of_block r4.out)).trans q4.out
       have hb := (h b (Nat.lt_of_lt_of_le (hSw.out b hSb.out) D.out.size)).trans hbW.out
       exact ⟨box_at h9 rfl, box_at h4 rfl, (World.cell?_of_block (w := w) (a := ⟨b, off + j * 6, none⟩) hb).trans (by simpa using hc.out 0 _ rfl), (World.cell?_of_block (w := w) (a := ⟨b, off + j * 6 + 1, none⟩) hb).trans (hc.out 1 _ rfl), (World.cell?_of_block (w := w) (a := ⟨b, off + j * 6 + 2, none⟩) hb).trans (hc.out 2 _ rfl), (World.cell?_of_block (w := w) (a := ⟨b, off + j * 6 + 3, none⟩) hb).trans (hc.out 3 _ rfl), (World.cell?_of_block (w := w) (a := ⟨b, off + j * 6 + 4, none⟩) hb).trans (hc.out 4 _ rfl), (World.cell?_of_block (w := w) (a := ⟨b, off + j * 6 + 5, none⟩) hb).trans (hc.out 5 _ rfl)⟩
      clear k0 k1 k2 k3 k4 k5
      refine wp_region_T (WithS (w.heap.size + 3) w.heap.size (.slice a8 (fs.length + 1) n8) (.slice (some ⟨b, off, none⟩) fv.length fc) b (off + j * 6) (.string a) (.int .i64 yk) (.int .i64 yn) (.string yt) (.slice ya yl yc) (.slice yf ym yg)) 10 (by kernel_rfl) ?_
      have hq0 := hSS.out wt.drew (fun _ _ => rfl)
      ((refine wpAnyT_take (i := 0) (v := ?_) rfl (by kernel_rfl) (by kernel_rfl) (by kernel_rfl) (by kernel_rfl) (by exact fun _ _ _ h => h) (Or.inl ⟨by kernel_rfl, ?_⟩) hq0 ?_; rotate_left 1; focus (intro w hSw; unfold WithS at hSw; (try dsimp only at hSw); go_simp; try with_reducible rfl); (try simp only [List.getElem_toArray, List.getElem_cons_zero, List.getElem_cons_succ, Act.put, List.setIfInBounds_toArray, List.set_cons_zero, List.set_cons_succ])); (refine wpAnyT_take (i := 1) (v := ?_) rfl (by kernel_rfl) (by kernel_rfl) (by kernel_rfl) (by kernel_rfl) (by exact fun _ _ _ h => h) (Or.inl ⟨by kernel_rfl, ?_⟩) hq0 ?_; rotate_left 1; focus (intro w hSw; unfold WithS at hSw; (try dsimp only at hSw); go_simp; try with_reducible rfl); (try simp only [List.getElem_toArray, List.getElem_cons_zero, List.getElem_cons_succ, Act.put, List.setIfInBounds_toArray, List.set_cons_zero, List.set_cons_succ])); (refine wpAnyT_take (i := 2) (v := ?_) rfl (by kernel_rfl) (by kernel_rfl) (by kernel_rfl) (by kernel_rfl) (by exact fun _ _ _ h => h) (Or.inl ⟨by kernel_rfl, ?_⟩) hq0 ?_; rotate_left 1; focus (intro w hSw; unfold WithS at hSw; (try dsimp only at hSw); go_simp; try with_reducible rfl); (try simp only [List.getElem_toArray, List.getElem_cons_zero, List.getElem_cons_succ, Act.put, List.setIfInBounds_toArray, List.set_cons_zero, List.set_cons_succ])); (refine wpAnyT_take (i := 3) (v := ?_) rfl (by kernel_rfl) (by kernel_rfl) (by kernel_rfl) (by kernel_rfl) (by exact fun _ _ _ h => h) (Or.inl ⟨by kernel_rfl, ?_⟩) hq0 ?_; rotate_left 1; focus (intro w hSw; unfold WithS at hSw; (try dsimp only at hSw); go_simp; try with_reducible rfl); (try simp only [List.getElem_toArray, List.getElem_cons_zero, List.getElem_cons_succ, Act.put, List.setIfInBounds_toArray, List.set_cons_zero, List.set_cons_succ])); (refine wpAnyT_take (i := 4) (v := ?_) rfl (by kernel_rfl) (by kernel_rfl) (by kernel_rfl) (by kernel_rfl) (by exact fun _ _ _ h => h) (Or.inl ⟨by kernel_rfl, ?_⟩) hq0 ?_; rotate_left 1; focus (intro w hSw; unfold WithS at hSw; (try dsimp only at hSw); go_simp; try with_reducible rfl); (try simp only [List.getElem_toArray, List.getElem_cons_zero, List.getElem_cons_succ, Act.put, List.setIfInBounds_toArray, List.set_cons_zero, List.set_cons_succ])))
      obtain ⟨h0, h1, h2, h3, h4, h5, h6, h7⟩ := hq0
      refine wpAnyT_one (i := 5) (by kernel_rfl) rfl (fun K hK => ?_)
      go_simp
      (refine hK.out _ _ (fun _ => ⟨h0, h1, h2, h3, h4, h5, h6, h7⟩) (fun _ => ?_); clear hK K; (try simp only [Act.put, List.setIfInBounds_toArray, List.set_cons_zero, List.set_cons_succ]))
      refine wpAnyT_one (i := 6) (by kernel_rfl) rfl (fun K hK => ?_)
      go_simp
      (refine hK.out _ _ (fun _ => ⟨h0, h1, h2, h3, h4, h5, h6, h7⟩) (fun _ => ?_); clear hK K; (try simp only [Act.put, List.setIfInBounds_toArray, List.set_cons_zero, List.set_cons_succ]))
      clear h0 h1 h2 h3 h4 h5 h6 h7
      have E7 := hid ((Below.refl wt.heap.size wt).drew.step (below_new wt.drew (.cells #[.string a, .int .i64 yk, .int .i64 yn, .string yt, .slice ya yl yc, .slice yf ym yg] 54)))
      refine wpAnyT_one (i := 7) (by kernel_rfl) rfl (fun K hK => ?_)
      go_simp
      (refine hK.out _ _ (fun _ => hSS.out _ (fun c h => E7.out.block c (Nat.lt_of_lt_of_le h hQt.out.size))) (fun _ => ?_); clear hK K; (try simp only [Act.put, List.setIfInBounds_toArray, List.set_cons_zero, List.set_cons_succ]))
      refine wpAnyT_one (i := 8) (by kernel_rfl) rfl (fun K hK => ?_)
      refine step_append_g fldFix _ rfl _ _ 23 rfl W0.heap.size 0 54 96 i0 _ Tryz.underlying23 hi hz0 hz1 hz2 rfl (by decide) (fs ++ [(nm, x)]) _ rfl (hQt.out.own.later fldFix E7.out) ⟨wt.heap.size, 0, none⟩ 1 [.string a, .int .i64 yk, .int .i64 yn, .string yt, .slice ya yl yc, .slice yf ym yg] (a, y) rfl (cells_new _ _ rfl _ _) ⟨_, rfl, haz, hry.out⟩ (by have := hfs.out; have := hlm.out; (try simp only [List.length_append, List.length_singleton]); omega) (by have := hfs.out; have := hlm.out; (try simp only [List.length_append, List.length_singleton]); unfold maxLen; omega) (Nat.le_trans hQt.out.size E7.out.size) ?_
      intro v9 w9 hown9 hg8 hlow9 hst8
      clear hlow9 hst8
      have hg9 : World.grownBy _ w9 (Value.ownBlock (.slice a8 (fs.length + 1) n8)) := hg8
      have hp := hid (hQt.out.push E7.out hown9 hg9)
      have hk8 : Hid (∀ c, c < W0.heap.size → w9.heap[c]? = wt.heap[c]?) := fun c hc0 => (hg9.block c (Nat.lt_of_lt_of_le hc0 (Nat.le_trans hQt.out.size E7.out.size)) (fun e => by have := (hQt.out.own.lt c e.symm).1; omega)).trans (E7.out.block c (Nat.lt_of_lt_of_le hc0 hQt.out.size))
      obtain ⟨a9, n9, hv9, hc9⟩ := hown9.form
      subst hv9
      replace hp := hp.out
      simp only [List.length_append, List.length_singleton] at hp
      replace hp := hid hp
      have q8 := hid ((hk8.out _ hQt.out.hi).trans q9.out)
      clear hg8 hg9 hown9
      (refine hK.out _ _ (fun _ => hSS.out w9 hk8.out) (fun _ => ?_); clear hK K; (try simp only [Act.put, List.setIfInBounds_toArray]))
      refine wpAnyT_one (i := 9) (by kernel_rfl) rfl (fun K hK => ?_)
      go_simp
      (refine hK.out _ _ (fun _ => hSS.out w9 hk8.out) (fun _ => ?_); clear hK K; (try simp only [Act.put, List.setIfInBounds_toArray, List.set_cons_zero, List.set_cons_succ]))
      have c4 := box_at (j := 4) q8.out rfl
      have f0 := box_free q8.out
      refine wpAnyT_one (i := 10) (by kernel_rfl) rfl (fun K hK => ?_)
      go_simp
      (refine hK.out _ _ (fun h => absurd h (by decide)) (fun _ => ?_); clear hK K; (try simp only [Act.put, List.setIfInBounds_toArray]))
      clear c4 f0
      refine wpAnyT_done (by kernel_rfl) ?_ _
      go_wp2_with fail
      go_roundg (fv.length - (j + 1))
      case measure => omega
      case rel => exact ⟨j + 1, _, (fs ++ [(nm, x)]) ++ [(a, y)], _, by omega, rfl, by go_num, by show _ = _; rw [hW2.out]; simp [hab, hl2.out], by have := hfs.out; show _ ≤ _; simp only [List.length_append, List.length_singleton]; omega, hp⟩
  ·have hjd : fn.drop j = [] ∧ fv.drop j = [] := ⟨List.drop_eq_nil_iff.2 (by have := hfl.out; omega), List.drop_eq_nil_iff.2 (by omega)⟩
   cases dn with
   | true =>
    go_upto_region 13 with fail
    have t9 := hid (hQ.out.row)
    have t8 := hid ((hQ.out.rest _ (lt_of_block r8.out) (by omega)).trans r8.out)
    have D9 := hid (hQ.out.below D.out)
    have own9 := hQ.out.own
    have ow9 := hid (fun b (hb : Value.ownBlock (.slice va fs.length vc) = some b) => own9.lt b hb)
    have f9 := hid (hQ.out.hi)
    have c0 := box_at (j := 0) t8.out rfl
    have c1 := box_at (j := 1) t8.out rfl
    have c2 := box_at (j := 2) t8.out rfl
    have c3 := box_at (j := 3) t8.out rfl
    have c4 := box_at (j := 4) t8.out rfl
    have f0 := box_free t8.out
    have d0 := box_at (j := 0) t9.out rfl
    have d1 := box_at (j := 1) t9.out rfl
    have d2 := box_at (j := 2) t9.out rfl
    have d3 := box_at (j := 3) t9.out rfl
    have d4 := box_at (j := 4) t9.out rfl
    go_wp2_with fail
    clear c0 c1 c2 c3 c4
    clear d0 d1 d2 d3 d4
    clear f0
    have hbz := hid (set5_below D9.out (Nat.le_add_right w.heap.size 2) (.int .i64 6) (.int .i64 0) (.string ⟨#[]⟩) (.slice none 0 0) (.slice va fs.length vc))
    have rz := hid (set5_box (u0 := .int .i64 6) (u1 := .int .i64 0) (u2 := .string ⟨#[]⟩) (u3 := .slice none 0 0) (u4 := .slice va fs.length vc) t8.out)
    have hkp := hid (fun b (hb : b ≠ w.heap.size + 2) => set5_other wr (w.heap.size + 2) (.int .i64 6) (.int .i64 0) (.string ⟨#[]⟩) (.slice none 0 0) (.slice va fs.length vc) (b := b) hb)
    have hsz9 := hid (set5_size wr (w.heap.size + 2) (.int .i64 6) (.int .i64 0) (.string ⟨#[]⟩) (.slice none 0 0) (.slice va fs.length vc))
    unfold set5 at hbz rz hkp hsz9
    generalize ((((wr.setCell ⟨w.heap.size + 2, 0, none⟩ (.int .i64 6)).setCell ⟨w.heap.size + 2, 1, none⟩ (.int .i64 0)).setCell ⟨w.heap.size + 2, 2, none⟩ (.string ⟨#[]⟩)).setCell ⟨w.heap.size + 2, 3, none⟩ (.slice none 0 0)).setCell ⟨w.heap.size + 2, 4, none⟩ (.slice va fs.length vc) = w9 at *
    have z0 := box_at (j := 0) rz.out rfl
    have z1 := box_at (j := 1) rz.out rfl
    have z2 := box_at (j := 2) rz.out rfl
    have z3 := box_at (j := 3) rz.out rfl
    have z4 := box_at (j := 4) rz.out rfl
    refine ⟨rfl, _, by simp [results, Tryz.results66, go_sem, z0, z1, z2, z3, z4] <;> exact ⟨rfl, rfl⟩, [.int .i64 6, .int .i64 0, .string ⟨#[]⟩, .slice none 0 0, .slice va fs.length vc], rfl, hbz.out, ?_⟩
    have hz9 : Hid (WR = fs) := by show _ = _; rw [hW.out, hjd.1, hjd.2]; simp [withR]
    rw [hz9.out]
    have hfin := own_fields (S' := fun c => S c ∨ From w.heap.size w9 c) (own_fixed (w' := w9) own9 (fun b hb => hkp.out b (by have := (ow9.out b hb).1; have := f9.out; omega))) (fun c h => .inl h) (fun c h => hbz.out.block c (hSw.out c h)) (fun b hb => .inr ⟨by have := (ow9.out b hb).1; have := D.out.size; omega, by rw [hsz9.out]; exact (ow9.out b hb).2⟩) (by have := hfs.out; have := hlm.out; (try simp only [List.length_append, List.length_singleton]); omega)
    exact rd_docL hfin
   | false =>
    have x0 := box_at (j := 0) q6.out rfl
    have x1 := box_at (j := 1) q6.out rfl
    have x2 := box_at (j := 2) q6.out rfl
    have x3 := box_at (j := 3) q6.out rfl
    have x4 := box_at (j := 4) q6.out rfl
    have q9 := hid (hQ.out.row)
    have f9 := hQ.out.hi
    have d4 := box_at (j := 4) q9.out rfl
    go_upto_region 13 with (at_builtin; (refine wpList_append_g fldFix _ rfl (.tmp 62) (.tmp 66) 23 rfl W0.heap.size 0 54 96 i0 (Value.agg #[.string ByteArray.empty, .int .i64 0, .int .i64 0, .string ByteArray.empty, .slice none 0 0, .slice none 0 0]) Tryz.underlying23 hi hz0 hz1 hz2 rfl (by decide) fs _ rfl (hQ.out.own.later fldFix (below_new wr (.cells #[.string nm, .int .i64 uk, .int .i64 un, .string ut, .slice ua ul uc, .slice uf um ug] 54))) ⟨wr.heap.size, 0, none⟩ 1 [.string nm, .int .i64 uk, .int .i64 un, .string ut, .slice ua ul uc, .slice uf um ug] (nm, x) rfl (cells_new _ _ rfl _ _) ⟨_, rfl, hnm, xx.out⟩ (by have := hfs.out; have := hlm.out; omega) (by have := hfs.out; have := hlm.out; unfold maxLen; omega) (Nat.le_trans hQ.out.size (below_new wr (.cells #[.string nm, .int .i64 uk, .int .i64 un, .string ut, .slice ua ul uc, .slice uf um ug] 54)).size) ?_); intro v8 w8 hown8 hg8 hlow8 hst8; clear hlow8 hst8; have hp := hid (hQ.out.push (below_new wr (.cells #[.string nm, .int .i64 uk, .int .i64 un, .string ut, .slice ua ul uc, .slice uf um ug] 54)) hown8 hg8); have q8 := hid ((hg8.block _ (Nat.lt_of_lt_of_le (lt_of_block q9.out) (below_new wr (.cells #[.string nm, .int .i64 uk, .int .i64 un, .string ut, .slice ua ul uc, .slice uf um ug] 54)).size) (fun e => by have := (hQ.out.own.lt _ e.symm).1; omega)).trans ((below_new wr (.cells #[.string nm, .int .i64 uk, .int .i64 un, .string ut, .slice ua ul uc, .slice uf um ug] 54)).block _ (lt_of_block q9.out) |>.trans q9.out)); clear d4; have c4 := box_at (j := 4) q8.out rfl; have f0 := box_free q8.out; obtain ⟨a8, n8, hv8, hc8⟩ := hown8.form; subst hv8; clear hg8 hown8; replace hp := hp.out; simp only [List.length_append, List.length_singleton] at hp; replace hp := hid hp)
    clear c4 f0
    obtain ⟨wt, hwt⟩ : ∃ x, x = w8.setCell ⟨w.heap.size + 1 + 1 + 1, 4, none⟩ (.slice a8 (fs.length + 1) n8) := ⟨_, rfl⟩
    have hQt : Hid (WQ w W0 S (w.heap.size + 3) (fs ++ [(nm, x)]) (.slice a8 (fs.length + 1) n8) wt) := by show WQ _ _ _ _ _ _ _; rw [hwt]; exact hp.out
    rw [← hwt]
    clear hwt hp q8
    clear x0 x1 x2 x3 x4 a4 q9 f9 q4 q6
    have t9 := hid (hQt.out.row)
    have t8 := hid ((hQt.out.rest _ (lt_of_block r8.out) (by omega)).trans r8.out)
    have D9 := hid (hQt.out.below D.out)
    have own9 := hQt.out.own
    have ow9 := hid (fun b (hb : Value.ownBlock (.slice a8 (fs.length + 1) n8) = some b) => own9.lt b hb)
    have f9 := hid (hQt.out.hi)
    have c0 := box_at (j := 0) t8.out rfl
    have c1 := box_at (j := 1) t8.out rfl
    have c2 := box_at (j := 2) t8.out rfl
    have c3 := box_at (j := 3) t8.out rfl
    have c4 := box_at (j := 4) t8.out rfl
    have f0 := box_free t8.out
    have d0 := box_at (j := 0) t9.out rfl
    have d1 := box_at (j := 1) t9.out rfl
    have d2 := box_at (j := 2) t9.out rfl
    have d3 := box_at (j := 3) t9.out rfl
    have d4 := box_at (j := 4) t9.out rfl
    go_wp2_with fail
    clear c0 c1 c2 c3 c4
    clear d0 d1 d2 d3 d4
    clear f0
    have hbz := hid (set5_below D9.out (Nat.le_add_right w.heap.size 2) (.int .i64 6) (.int .i64 0) (.string ⟨#[]⟩) (.slice none 0 0) (.slice a8 (fs.length + 1) n8))
    have rz := hid (set5_box (u0 := .int .i64 6) (u1 := .int .i64 0) (u2 := .string ⟨#[]⟩) (u3 := .slice none 0 0) (u4 := .slice a8 (fs.length + 1) n8) t8.out)
    have hkp := hid (fun b (hb : b ≠ w.heap.size + 2) => set5_other wt (w.heap.size + 2) (.int .i64 6) (.int .i64 0) (.string ⟨#[]⟩) (.slice none 0 0) (.slice a8 (fs.length + 1) n8) (b := b) hb)
    have hsz9 := hid (set5_size wt (w.heap.size + 2) (.int .i64 6) (.int .i64 0) (.string ⟨#[]⟩) (.slice none 0 0) (.slice a8 (fs.length + 1) n8))
    unfold set5 at hbz rz hkp hsz9
    generalize ((((wt.setCell ⟨w.heap.size + 2, 0, none⟩ (.int .i64 6)).setCell ⟨w.heap.size + 2, 1, none⟩ (.int .i64 0)).setCell ⟨w.heap.size + 2, 2, none⟩ (.string ⟨#[]⟩)).setCell ⟨w.heap.size + 2, 3, none⟩ (.slice none 0 0)).setCell ⟨w.heap.size + 2, 4, none⟩ (.slice a8 (fs.length + 1) n8) = w9 at *
    have z0 := box_at (j := 0) rz.out rfl
    have z1 := box_at (j := 1) rz.out rfl
    have z2 := box_at (j := 2) rz.out rfl
    have z3 := box_at (j := 3) rz.out rfl
    have z4 := box_at (j := 4) rz.out rfl
    refine ⟨rfl, _, by simp [results, Tryz.results66, go_sem, z0, z1, z2, z3, z4] <;> exact ⟨rfl, rfl⟩, [.int .i64 6, .int .i64 0, .string ⟨#[]⟩, .slice none 0 0, .slice a8 (fs.length + 1) n8], rfl, hbz.out, ?_⟩
    have hz9 : Hid (WR = (fs ++ [(nm, x)])) := by show _ = _; rw [hW.out, hjd.1, hjd.2]; simp [withR]
    rw [hz9.out]
    have hfin := own_fields (S' := fun c => S c ∨ From w.heap.size w9 c) (own_fixed (w' := w9) own9 (fun b hb => hkp.out b (by have := (ow9.out b hb).1; have := f9.out; omega))) (fun c h => .inl h) (fun c h => hbz.out.block c (hSw.out c h)) (fun b hb => .inr ⟨by have := (ow9.out b hb).1; have := D.out.size; omega, by rw [hsz9.out]; exact (ow9.out b hb).2⟩) (by have := hfs.out; have := hlm.out; (try simp only [List.length_append, List.length_singleton]); omega)
    exact rd_docL hfin
end Go.Proofs.YthjihdpleclejaaGreatDoor
