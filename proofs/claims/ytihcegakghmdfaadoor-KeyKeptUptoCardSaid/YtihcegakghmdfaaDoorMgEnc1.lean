/-
  Walks: codec's varint, text, clip, Varint.
  Walk: codec's written.
-/
import Derived.Test.YtihcegakghmdfaaDoorMgHel
import Derived.Test.YtihcegakghmdfaaDoorMgVal14
import Derived.Laws.Shifts
import Derived.Test.YtihcegakghmdfaaDoorMgVal19
namespace Go.Proofs.YtihcegakghmdfaaDoor
open Go.RowKit Go.Proofs

theorem or_128 (x : Nat) (h : x < 256) : bits .or .u8 (x : Int) 128 = ((x % 128 + 128 : Nat) : Int) := by
  have key : ∀ x : Fin 256, bits .or .u8 (x.val : Int) 128 = ((x.val % 128 + 128 : Nat) : Int) := by decide +kernel
  exact key ⟨x, h⟩

set_option maxRecDepth 100000 in
theorem varint_calls (n : Nat) (hn : n < 18446744073709551616) {w W0 : World} {B : Nat} {l : List UInt8} {v : Value} (hb : Buf B 5 W0 w l v) (hlim : l.length + 10 ≤ 140737488355328) :
    Calls Tryd.prog 91 #[v, .int .u64 n] w fun e w' => ∃ v', e = .returned v' ∧ Buf B 5 W0 w' (l ++ varint n) v' ∧ Ext w w' v v' := by
  obtain ⟨i, hP⟩ := byte8
  have hlen := varint_length n
  have hdig := digits_le n hn
  obtain ⟨V, hV⟩ : ∃ V, V = l ++ varint n := ⟨_, rfl⟩
  have hVl : V.length ≤ l.length + 10 := by rw [hV, List.length_append]; omega
  rw [← hV]
  replace hV := hid hV
  clear hlen hdig
  go_enter Tryd.func91, Tryd.ntmps91
  go_wp2_with fail
  go_loopg [0, 1] n (fun gk o m wr => ∃ (a : Nat) (l2 : List UInt8), gk = a ∧ a < 18446744073709551616 ∧ m = .int .u64 a ∧ l2 ++ varint a = V ∧ Hid (Buf B 5 W0 wr l2 o) ∧ Hid (Ext w wr v o))
  case atStart => exact ⟨n, l, rfl, hn, rfl, hV.out.symm, hb, Ext.refl _ _⟩
  case round =>
    obtain ⟨a, l2, rfl, ha, rfl, hl, hb2, he2⟩ := hrel
    have hll : l2.length ≤ l.length + 10 := by rw [← hl, List.length_append] at hVl; omega
    have hll2 : l2.length + 1 ≤ 140737488355328 := by
      have := List.length_pos_iff.2 (varint_ne gk)
      rw [← hl, List.length_append] at hVl; omega
    replace hl := hid hl
    by_cases h128 : 128 ≤ gk
    · obtain ⟨b, hbb⟩ : ∃ b : UInt8, b = UInt8.ofNat (gk % 128 + 128) := ⟨_, rfl⟩
      have hv : Hid (varint gk = b :: varint (gk / 128)) := by show _ = _; rw [varint, if_neg (by omega), hbb]
      have hz : Hid (((gk % 256 % 128 + 128 : Nat) : Int) = b.toNat) := by
        show _ = _
        rw [hbb, UInt8.toNat_ofNat']; omega
      have hor : bits .or .u8 ((gk : Int) % 256) 128 = (b.toNat : Int) := by rw [← hz.out, ← or_128 (gk % 256) (by omega)]; rfl
      clear hbb hz
      go_wp2_with (first
        | (at_builtin; (refine wpList_ext_bytes rfl _ _ rfl hP rfl (hb2.out.later (below_new _ _)) [b] wr.heap.size 1 1 rfl rfl (src_new [b] _ rfl rfl) (by simp; omega) ?_); intro v' w3 hb3 he3))
      have he4 := hid (((he2.out.alloc _).trans he3))
      go_roundg (gk / 128)
      case measure => omega
      case rel => exact ⟨gk / 128, l2 ++ [b], rfl, by omega, by go_num, by rw [← hl.out, hv.out]; simp, hb3, he4⟩
    · obtain ⟨b, hbb⟩ : ∃ b : UInt8, b = UInt8.ofNat gk := ⟨_, rfl⟩
      have hv : Hid (varint gk = [b]) := by show _ = _; rw [varint, if_pos (by omega), hbb]
      have hz : Hid ((gk : Int) = b.toNat) := by show _ = _; rw [hbb, UInt8.toNat_ofNat']; omega
      have hw : IntKind.u8.wrap (gk : Int) = (b.toNat : Int) := by rw [IntKind.wrap_u8, ← hz.out]; omega
      clear hbb
      go_wp2_with (first
        | (at_builtin; (refine wpList_ext_bytes rfl _ _ rfl hP rfl (hb2.out.later (below_new _ _)) [b] wr.heap.size 1 1 rfl rfl (src_new [b] _ (by first | rfl | (simp only [bcells, List.map_cons, List.map_nil, ← hz.out]; done) | (simp only [bcells, List.map_cons, List.map_nil, ← hz.out]; go_num)) rfl) (by simp; omega) ?_); intro v' w3 hb3 he3))
      go_ret
      have he : l2 ++ [b] = V := by rw [← hl.out, hv.out]
      rw [he] at hb3
      exact ⟨_, rfl, hb3, (he2.out.alloc _).trans he3⟩

set_option maxRecDepth 100000 in
theorem etext_calls (s : ByteArray) (hs : s.size ≤ 140737488355328) {w W0 : World} {B : Nat} {l : List UInt8} {v : Value} (hb : Buf B 5 W0 w l v) (hlim : l.length + 10 + s.size ≤ 140737488355328) :
    Calls Tryd.prog 100 #[v, .string s] w fun e w' => ∃ v', e = .returned v' ∧ Buf B 5 W0 w' (l ++ (varint s.size ++ s.data.toList)) v' ∧ Ext w w' v v' := by
  obtain ⟨i, hP⟩ := byte8
  have hv := hid (varint_calls s.size (by omega) hb (by omega))
  have hle : Hid ((varint s.size).length ≤ 10) := by show _ ≤ _; rw [varint_length]; exact (digits_le _ (by omega)).2
  have hwr : IntKind.u64.wrap (s.size : Int) = (s.size : Int) := by rw [IntKind.wrap_u64]; omega
  go_enter Tryd.func100, Tryd.ntmps100
  go_wp2_with fail
  refine hv.out.mono ?_
  rintro e w1 ⟨v1, rfl, hb1, he1⟩
  replace hb1 := hid hb1
  replace he1 := hid he1
  go_wp2_with (first
    | (at_builtin; (refine wpList_ext_text rfl _ _ rfl hP Tryd.underlying9 rfl hb1.out s rfl (by rw [List.length_append]; have := hle.out; omega) ?_); intro v2 w2 hb2 he2))
  go_ret
  rw [List.append_assoc] at hb2
  exact ⟨_, rfl, hb2, he1.out.trans he2⟩

set_option maxRecDepth 100000 in
theorem clip_calls {w : World} {l : List UInt8} {g c : Nat} (hs : Src w g l) (hlim : l.length ≤ 140737488355328) :
    Calls Tryd.prog 67 #[.slice (some ⟨g, 0, none⟩) l.length c] w fun e w' => ∃ v', e = .returned v' ∧ Buf w.heap.size 5 w w' l v' := by
  obtain ⟨i, hP⟩ := byte8
  have hs0 := hid hs
  go_enter Tryd.func67, Tryd.ntmps67
  go_wp2_with (first
    | (at_make; refine wpList_make_own _ rfl _ _ 26 rfl w.heap.size 5 i _ 1 Tryd.underlying26 hP.hi hP.hz hP.hsize .i64 .i64 _ l.length rfl rfl rfl (by rw [hP.hby]; omega) (by unfold maxLen; omega) (Nat.le_refl _) ?_; intro w4 hown4 hg4; have hs4 := hid (hs0.out.later (grown_below hg4)); have hb4 : Hid (Buf w.heap.size 5 w w4 [] (.slice (some ⟨w.heap.size, 0, none⟩) 0 l.length)) := ⟨World.ownsRowF_of hown4, grown_below hg4, hg4.size⟩; clear hown4 hg4)
    | (at_builtin; (refine wpList_buf_made rfl _ _ rfl hP rfl hb4.out l g _ _ rfl rfl hs4.out (by simp; omega) ?_); intro v2 w2 hb2))
  go_ret
  rw [List.nil_append] at hb2
  exact ⟨_, rfl, hb2⟩

set_option maxRecDepth 100000 in
theorem evarint_calls (n : Nat) (hn : n < 18446744073709551616) (w : World) :
    Calls Tryd.prog 52 #[.int .u64 n] w fun e w' => ∃ v, e = .returned v ∧ Buf w.heap.size 5 w w' (varint n) v := by
  have hv := hid (varint_calls n hn (Buf.nil (e := 5) (Below.refl w.heap.size w) (Nat.le_refl _)) (by simp))
  have hle : Hid ((varint n).length ≤ 10) := by show _ ≤ _; rw [varint_length]; exact (digits_le _ (by omega)).2
  have hne := hid (varint_ne n)
  have hcl := hid (fun (w : World) (l : List UInt8) (g c : Nat) (hs : Src w g l) (hl : l.length ≤ 140737488355328) => clip_calls (c := c) hs hl)
  generalize varint n = V at *
  go_enter Tryd.func52, Tryd.ntmps52
  go_wp2_with fail
  refine hv.out.mono ?_
  rintro e w1 ⟨v1, rfl, hb1, he1⟩
  rw [List.nil_append] at hb1
  obtain ⟨g1, c1, rfl, _⟩ := hb1.form hne.out
  replace hb1 := hid hb1
  replace he1 := hid he1.nil
  go_wp2_with fail
  refine (hcl.out _ _ _ _ hb1.out.src (by have := hle.out; omega)).mono ?_
  rintro e w2 ⟨v2, rfl, hb2⟩
  replace hb2 := hid hb2
  go_wp2_with fail
  go_ret
  exact ⟨_, rfl, hb2.out.base he1.out.size he1.out⟩
end Go.Proofs.YtihcegakghmdfaaDoor

namespace Go.Proofs.YtihcegakghmdfaaDoor
open Go.RowKit Go.Proofs

/-- Blocks that are there, v's row not among them. -/
def Off (v : Value) (w : World) (b : Nat) : Prop := b < w.heap.size ∧ v.ownBlock ≠ some b
theorem Rd.ext {w w' : World} {v v' : Value} {V : PVal} {cs : List Value} (h : Rd w (Off v w) V cs) (he : Ext w w' v v') : Rd w' (Off v' w') V cs :=
  h.keep (fun _ hb => ⟨Nat.lt_of_lt_of_le hb.1 he.size, he.ne hb.1 hb.2⟩) (fun _ hb => he.block hb.1 hb.2)
theorem RdL.ext {w w' : World} {v v' : Value} {xs : List PVal} {x : Value} (h : RdL w (Off v w) xs x) (he : Ext w w' v v') : RdL w' (Off v' w') xs x :=
  h.keep (fun _ hb => ⟨Nat.lt_of_lt_of_le hb.1 he.size, he.ne hb.1 hb.2⟩) (fun _ hb => he.block hb.1 hb.2)
theorem RdF.ext {w w' : World} {v v' : Value} {fn : List ByteArray} {fv : List PVal} {x : Value} (h : RdF w (Off v w) fn fv x) (he : Ext w w' v v') : RdF w' (Off v' w') fn fv x :=
  h.keep (fun _ hb => ⟨Nat.lt_of_lt_of_le hb.1 he.size, he.ne hb.1 hb.2⟩) (fun _ hb => he.block hb.1 hb.2)
theorem Buf.off {B : Nat} {e : TypeId} {W0 w : World} {l : List UInt8} {v : Value} (h : Buf B e W0 w l v) : v.ownBlock ≠ some w.heap.size := fun e => by have := (h.1.lt _ e).2; omega
/-- What the region at a field reads. -/
def WrF (bx : Nat) (v0 v1 v2 v3 v4 v5 : Value) (w' : World) : Prop :=
  w'.cell? ⟨bx, 0, none⟩ = some v0 ∧ w'.cell? ⟨bx, 1, none⟩ = some v1 ∧ w'.cell? ⟨bx, 2, none⟩ = some v2 ∧ w'.cell? ⟨bx, 3, none⟩ = some v3 ∧ w'.cell? ⟨bx, 4, none⟩ = some v4 ∧ w'.cell? ⟨bx, 5, none⟩ = some v5
theorem wrF_mk {bx : Nat} {v0 v1 v2 v3 v4 v5 : Value} {t : TypeId} {w w' : World} (hx : w.heap[bx]? = some (.cells #[v0, v1, v2, v3, v4, v5] t (0, 0))) (h2 : w'.heap[bx]? = w.heap[bx]?) : WrF bx v0 v1 v2 v3 v4 v5 w' :=
  ⟨box_at (h2.trans hx) rfl, box_at (h2.trans hx) rfl, box_at (h2.trans hx) rfl, box_at (h2.trans hx) rfl, box_at (h2.trans hx) rfl, box_at (h2.trans hx) rfl⟩

set_option maxRecDepth 100000 in
set_option maxHeartbeats 8000000 in
theorem written_calls : ∀ (V : PVal) {w W0 : World} {B : Nat} {l0 : List UInt8} {v : Value} {cs : List Value}, Buf B 5 W0 w l0 v → Rd w (Off v w) V cs → l0.length + V.enc.length + 10 ≤ 140737488355328 →
    Calls Tryd.prog 68 #[v, .agg cs.toArray] w fun e w' => ∃ v', e = .returned v' ∧ Buf B 5 W0 w' (l0 ++ V.enc) v' ∧ Ext w w' v v' := by
  intro V
  induction hN : V.nodes using Nat.strongRecOn generalizing V with
  | _ N ih =>
  subst hN
  intro w W0 B l0 v cs hb hV hlen
  obtain ⟨i, hP⟩ := byte8
  have hvar := hid (fun (n : Nat) (hn : n < 18446744073709551616) (w : World) (l : List UInt8) (v : Value) (hb : Buf B 5 W0 w l v) (hl : l.length + 10 ≤ 140737488355328) => varint_calls n hn hb hl)
  have htxt := hid (fun (s : ByteArray) (hs : s.size ≤ 140737488355328) (w : World) (l : List UInt8) (v : Value) (hb : Buf B 5 W0 w l v) (hl : l.length + 10 + s.size ≤ 140737488355328) => etext_calls s hs hb hl)
  have htn := hid turned_calls
  obtain ⟨k, n, s, l, fn, fv⟩ := V
  have hih := hid (fun (x : PVal) (hx : x.nodes < (PVal.mk k n s l fn fv).nodes) (w : World) (l : List UInt8) (v : Value) (cs : List Value) (hb : Buf B 5 W0 w l v) (hr : Rd w (Off v w) x cs) (hl : l.length + x.enc.length + 10 ≤ 140737488355328) => ih x.nodes hx x rfl hb hr hl)
  clear ih
  obtain ⟨la, lc, fa, fc, rfl, hk, hn, hs, hlc, hlm, hfc, hfm, _, hF⟩ := hV.inv
  have hfl := hid hF.1
  have hV0 := hid hV
  clear hV hF
  obtain ⟨b0, hb0⟩ : ∃ b : UInt8, b = UInt8.ofNat (k % 256).toNat := ⟨_, rfl⟩
  have hz0 : Hid (k % 256 = b0.toNat) := by show _ = _; rw [hb0, UInt8.toNat_ofNat']; omega
  have hr : Hid (PVal.enc (.mk k n s l fn fv) = b0 :: (if k = 2 then [UInt8.ofNat (n % 256).toNat] else if k = 3 then varint (turned n) else if k = 4 then varint s.size ++ s.data.toList
      else if k = 5 then varint l.length ++ encL l else if k = 6 then varint fv.length ++ encF fn fv else [])) := by show _ = _; rw [PVal.enc, hb0]
  have hl0 : l0.length + 1 + 10 ≤ 140737488355328 := by rw [hr.out] at hlen; simp at hlen; omega
  generalize PVal.enc (.mk k n s l fn fv) = R at *
  clear hb0
  have hw0 : IntKind.u8.wrap k = (b0.toNat : Int) := by rw [IntKind.wrap_u8]; exact hz0.out
  have hb1 := hid (hb.later (below_new w (.cells #[.int .i64 k, .int .i64 n, .string s, .slice la l.length lc, .slice fa fv.length fc] 25)))
  have hoff := hid hb.off
  have hb := hid hb
  go_enter Tryd.func68, Tryd.ntmps68
  go_upto_region 2 with (first
    | (at_builtin; (refine wpList_ext_bytes rfl _ _ rfl hP rfl (hb1.out.later (below_new _ _)) [b0] (w.heap.size + 1) 1 1 rfl rfl (src_new [b0] _ (by first | rfl | (simp only [bcells, List.map_cons, List.map_nil, ← hz0.out]; done) | (simp only [bcells, List.map_cons, List.map_nil, ← hz0.out]; go_num)) (by simp)) (by simp; omega) ?_); intro v1 w3 hb3 he3))
  have hE1 := hid (show Ext (w.alloc (.cells #[.int .i64 k, .int .i64 n, .string s, .slice la l.length lc, .slice fa fv.length fc] 25)) w3 v v1 from ((Ext.refl _ v).alloc _).trans he3)
  have hE := hid ((Ext.of_below v (below_new w (.cells #[.int .i64 k, .int .i64 n, .string s, .slice la l.length lc, .slice fa fv.length fc] 25))).trans hE1.out)
  have hVx := hid (hV0.out.ext hE.out)
  obtain ⟨_, _, _, _, hce, _, _, _, _, _, _, _, hL, hF⟩ := hVx.out.inv
  injection hce with _ hce
  injection hce with _ hce
  injection hce with _ hce
  injection hce with e3 hce
  injection hce with e4 _
  injection e3 with e3 _ e3c
  injection e4 with e4 _ e4c
  subst e3 e3c e4 e4c
  have hL0 := hid hL
  have hF0 := hid hF
  have hbx := hid (show ∀ (w' : World) (v' : Value), Ext w3 w' v1 v' → w'.heap[w.heap.size]? = some (.cells #[.int .i64 k, .int .i64 n, .string s, .slice la l.length lc, .slice fa fv.length fc] 25 (0, 0)) from fun w' v' h =>
    ((hE1.out.trans h).block (by simp) hoff.out).trans (heap_alloc_new w _))
  have hb3 := hid hb3
  have c0 := box_at (j := 0) (hbx.out _ _ (Ext.refl _ _)) rfl
  have c1 := box_at (j := 1) (hbx.out _ _ (Ext.refl _ _)) rfl
  have c2 := box_at (j := 2) (hbx.out _ _ (Ext.refl _ _)) rfl
  have c3 := box_at (j := 3) (hbx.out _ _ (Ext.refl _ _)) rfl
  have c4 := box_at (j := 4) (hbx.out _ _ (Ext.refl _ _)) rfl
  clear he3 hL hF hw0
  by_cases h2 : k = 2
  · subst h2
    obtain ⟨b1, hbb⟩ : ∃ b : UInt8, b = UInt8.ofNat (n % 256).toNat := ⟨_, rfl⟩
    have hz1 : Hid (n % 256 = b1.toNat) := by show _ = _; rw [hbb, UInt8.toNat_ofNat']; omega
    replace hr : Hid (l0 ++ R = (l0 ++ [b0]) ++ [b1]) := by show _ = _; rw [hr.out, hbb]; simp
    have hl1 : (l0 ++ [b0]).length + 1 ≤ 140737488355328 := by simp; omega
    have hw1 : IntKind.u8.wrap n = (b1.toNat : Int) := by rw [IntKind.wrap_u8]; exact hz1.out
    clear hbb
    go_wp2_with (first
      | (at_builtin; (refine wpList_ext_bytes rfl _ _ rfl hP rfl (hb3.out.later (below_new _ _)) [b1] w3.heap.size 1 1 rfl rfl (src_new [b1] _ (by first | rfl | (simp only [bcells, List.map_cons, List.map_nil, ← hz1.out]; done) | (simp only [bcells, List.map_cons, List.map_nil, ← hz1.out]; go_num)) rfl) hl1 ?_); intro v4 w4 hb4 he4))
    go_ret
    rw [hr.out]
    exact ⟨_, rfl, hb4, hE.out.trans (((Ext.refl _ _).alloc _).trans he4)⟩
  by_cases h3 : k = 3
  · subst h3
    have htl := turned_lt hn
    replace hr : Hid (l0 ++ R = (l0 ++ [b0]) ++ varint (turned n)) := by show _ = _; rw [hr.out]; simp
    have htq := hid (htn.out n hn)
    have hvT := hid (hvar.out (turned n) htl _ _ _ hb3.out (by simp; omega))
    generalize turned n = T at *
    generalize varint T = VT at *
    go_wp2_with fail
    refine (htq.out _).mono ?_
    rintro e w4 ⟨rfl, rfl⟩
    go_wp2_with fail
    refine hvT.out.mono ?_
    rintro e w4 ⟨v4, rfl, hb4, he4⟩
    go_wp2_with fail
    go_ret
    rw [hr.out]
    exact ⟨_, rfl, hb4, hE.out.trans he4⟩
  by_cases h4 : k = 4
  · subst h4
    have hl4 : l0.length + 1 + (varint s.size).length + s.size + 10 ≤ 140737488355328 := by rw [hr.out] at hlen; simp at hlen; omega
    replace hr : Hid (l0 ++ R = (l0 ++ [b0]) ++ (varint s.size ++ s.data.toList)) := by show _ = _; rw [hr.out]; simp
    have hvT := hid (htxt.out s hs _ _ _ hb3.out (by simp; omega))
    generalize varint s.size ++ s.data.toList = VT at *
    go_wp2_with fail
    refine hvT.out.mono ?_
    rintro e w4 ⟨v4, rfl, hb4, he4⟩
    go_wp2_with fail
    go_ret
    rw [hr.out]
    exact ⟨_, rfl, hb4, hE.out.trans he4⟩
  by_cases h5 : k = 5
  · subst h5
    have hl5 : l0.length + 1 + (varint l.length).length + (encL l).length + 10 ≤ 140737488355328 := by rw [hr.out] at hlen; simp at hlen; omega
    replace hr : Hid (l0 ++ R = ((l0 ++ [b0]) ++ varint l.length) ++ encL l) := by show _ = _; rw [hr.out]; simp
    have hvT := hid (hvar.out l.length (by omega) _ _ _ hb3.out (by simp; omega))
    have hpl : ((l0 ++ [b0]) ++ varint l.length).length = l0.length + 1 + (varint l.length).length := by simp; omega
    generalize (l0 ++ [b0]) ++ varint l.length = pre at *
    have hwr : IntKind.u64.wrap (l.length : Int) = (l.length : Int) := by rw [IntKind.wrap_u64]; omega
    go_wp2_with fail
    refine hvT.out.mono ?_
    rintro e w4 ⟨v4, rfl, hb4, he4⟩
    clear c0 c1 c2 c3 c4
    have c3 := box_at (j := 3) (hbx.out _ _ he4) rfl
    replace hb4 := hid hb4
    replace he4 := hid he4
    go_wp2_with fail
    go_loopg [0, 49] l.length (fun gh o i wr => ∃ j : Nat, gh + j = l.length ∧ i = .int .i64 j ∧ Hid (Buf B 5 W0 wr (pre ++ encL (l.take j)) o) ∧ Hid (Ext w3 wr v1 o))
    case atStart => exact ⟨0, by omega, rfl, by simpa [encL] using hb4, he4⟩
    case round =>
      obtain ⟨j, hj, rfl, hbr, her⟩ := hrel
      clear c3 hb4 he4
      by_cases hlt : j < l.length
      · obtain ⟨x, hx⟩ : ∃ x, l[j]? = some x := ⟨_, List.getElem?_eq_getElem hlt⟩
        obtain ⟨b, off, xs, rfl, hxS, hxc, hxr⟩ := (hL0.out.ext her.out).at_ hx
        have hxn := nodes_mem (List.mem_of_getElem? hx)
        have hsx := hid (encL_succ hx)
        have hle := encL_take_le l (j + 1)
        rw [hsx.out, List.length_append] at hle
        have hcx := hid (fun w l v cs hb hr hl => hih.out x (by simp only [PVal.nodes]; omega) w l v cs hb hr hl)
        have hlx : (pre ++ encL (l.take j)).length + x.enc.length + 10 ≤ 140737488355328 := by rw [List.length_append]; omega
        generalize x.enc = ex at *
        generalize encL (l.take j) = done at *
        clear hx hxn
        obtain ⟨xk, xn, xt, xl, xfn, xfv⟩ := x
        obtain ⟨xa, xc, xf, xg, rfl, _⟩ := hxr.inv
        obtain ⟨d0, d1, d2, d3, d4⟩ := five hxc
        clear hxc
        have hxr := hid (hxr.ext (Ext.of_below _ (below_new _ (.cells #[.int .i64 xk, .int .i64 xn, .string xt, .slice xa xl.length xc, .slice xf xfv.length xg] 25))))
        have hbq := hid (hbr.out.later (below_new _ (.cells #[.int .i64 xk, .int .i64 xn, .string xt, .slice xa xl.length xc, .slice xf xfv.length xg] 25)))
        go_wp2_with fail
        refine (hcx.out _ _ _ _ hbq.out hxr.out hlx).mono ?_
        rintro e w5 ⟨v5, rfl, hb5, he5⟩
        replace hb5 := hid hb5
        have he6 := hid (her.out.trans (((Ext.refl _ _).alloc _).trans he5))
        clear he5
        go_wp2_with fail
        go_roundg (l.length - (j + 1))
        case measure => omega
        case rel => exact ⟨j + 1, by omega, by go_num, by show Buf _ _ _ _ _ _; rw [hsx.out, ← List.append_assoc]; exact hb5.out, he6⟩
      · have he : l.take j = l := List.take_of_length_le (by omega)
        rw [he, ← hr.out] at hbr
        go_wp2_with fail
        go_ret
        exact ⟨_, rfl, hbr.out, hE.out.trans her.out⟩
  by_cases h6 : k = 6
  · subst h6
    have hl6 : l0.length + 1 + (varint fv.length).length + (encF fn fv).length + 10 ≤ 140737488355328 := by rw [hr.out] at hlen; simp at hlen; omega
    replace hr : Hid (l0 ++ R = ((l0 ++ [b0]) ++ varint fv.length) ++ encF fn fv) := by show _ = _; rw [hr.out]; simp
    have hvT := hid (hvar.out fv.length (by omega) _ _ _ hb3.out (by simp; omega))
    have hpl : ((l0 ++ [b0]) ++ varint fv.length).length = l0.length + 1 + (varint fv.length).length := by simp; omega
    generalize (l0 ++ [b0]) ++ varint fv.length = pre at *
    have hwr : IntKind.u64.wrap (fv.length : Int) = (fv.length : Int) := by rw [IntKind.wrap_u64]; omega
    go_wp2_with fail
    refine hvT.out.mono ?_
    rintro e w4 ⟨v4, rfl, hb4, he4⟩
    clear c0 c1 c2 c3 c4
    have c4 := box_at (j := 4) (hbx.out _ _ he4) rfl
    replace hb4 := hid hb4
    replace he4 := hid he4
    go_wp2_with fail
    go_loopg [0, 68] fv.length (fun gh o i wr => ∃ j : Nat, gh + j = fv.length ∧ i = .int .i64 j ∧ Hid (Buf B 5 W0 wr (pre ++ encF (fn.take j) (fv.take j)) o) ∧ Hid (Ext w3 wr v1 o))
    case atStart => exact ⟨0, by omega, rfl, by simpa [encF] using hb4, he4⟩
    case round =>
      obtain ⟨j, hj, rfl, hbr, her⟩ := hrel
      clear c4 hb4 he4
      by_cases hlt : j < fv.length
      · obtain ⟨x, hx⟩ : ∃ x, fv[j]? = some x := ⟨_, List.getElem?_eq_getElem hlt⟩
        obtain ⟨nm, hnm⟩ : ∃ nm, fn[j]? = some nm := ⟨_, List.getElem?_eq_getElem (by rw [hfl.out]; exact hlt)⟩
        obtain ⟨b, off, xs, rfl, hxS, hxc, hxr, hnz⟩ := (hF0.out.ext her.out).at_ hnm hx
        have hxn := nodes_mem (List.mem_of_getElem? hx)
        have hsx := hid (encF_succ hnm hx)
        have hle := encF_take_le fn fv (j + 1)
        rw [hsx.out, List.length_append, List.length_append, List.length_append] at hle
        have hnl : nm.data.toList.length = nm.size := by simp
        rw [hnl] at hle
        have hcx := hid (fun w l v cs hb hr hl => hih.out x (by simp only [PVal.nodes]; omega) w l v cs hb hr hl)
        have hlx : Hid ((pre ++ encF (fn.take j) (fv.take j)).length + (varint nm.size).length + nm.size + x.enc.length + 10 ≤ 140737488355328) := by show _ ≤ _; rw [List.length_append]; omega
        generalize x.enc = ex at *
        generalize encF (fn.take j) (fv.take j) = done at *
        clear hx hxn hnm
        obtain ⟨xk, xn, xt, xl, xfn, xfv⟩ := x
        obtain ⟨xa, xc, xf, xg, rfl, _⟩ := hxr.inv
        obtain ⟨d0, d1, d2, d3, d4, d5⟩ := six hxc
        clear hxc
        have hxr := hid (hxr.ext (Ext.of_below _ (below_new _ (.cells #[.string nm, .int .i64 xk, .int .i64 xn, .string xt, .slice xa xl.length xc, .slice xf xfv.length xg] 50)).drew))
        have hrx := hid (heap_alloc_new wr (.cells #[.string nm, .int .i64 xk, .int .i64 xn, .string xt, .slice xa xl.length xc, .slice xf xfv.length xg] 50))
        have hso := hid hbr.out.off
        have hsz : Hid (wr.heap.size < (wr.alloc (.cells #[.string nm, .int .i64 xk, .int .i64 xn, .string xt, .slice xa xl.length xc, .slice xf xfv.length xg] 50)).heap.size) := by show _ < _; simp
        have htx := hid (htxt.out nm hnz _ _ _ (hbr.out.later (below_new _ (.cells #[.string nm, .int .i64 xk, .int .i64 xn, .string xt, .slice xa xl.length xc, .slice xf xfv.length xg] 50)).drew) (by have := hlx.out; omega))
        have hew := hid (Ext.of_below u0 (below_new wr (.cells #[.string nm, .int .i64 xk, .int .i64 xn, .string xt, .slice xa xl.length xc, .slice xf xfv.length xg] 50)).drew)
        go_upto_region 21 with fail
        clear d0 d1 d2 d3 d4 d5
        obtain ⟨wp, hwp⟩ : ∃ wp, wp = wr.alloc (.cells #[.string nm, .int .i64 xk, .int .i64 xn, .string xt, .slice xa xl.length xc, .slice xf xfv.length xg] 50) := ⟨_, rfl⟩
        rw [← hwp] at hxr hrx hsz htx hew ⊢
        clear hwp
        refine wp_region_T (WrF wr.heap.size (.string nm) (.int .i64 xk) (.int .i64 xn) (.string xt) (.slice xa xl.length xc) (.slice xf xfv.length xg)) 7 (by kernel_rfl) ?_
        have hS0 : WrF wr.heap.size (.string nm) (.int .i64 xk) (.int .i64 xn) (.string xt) (.slice xa xl.length xc) (.slice xf xfv.length xg) wp.drew := wrF_mk hrx.out rfl
        ((refine wpAnyT_take (i := 0) (v := ?_) rfl (by kernel_rfl) (by kernel_rfl) (by kernel_rfl) (by kernel_rfl) (by exact fun _ _ _ h => h) (Or.inl ⟨by rfl, ?_⟩) hS0 ?_; rotate_left 1; focus (intro w hSw; unfold WrF at hSw; (try dsimp only at hSw); go_simp; try with_reducible rfl); (try simp only [List.getElem_toArray, List.getElem_cons_zero, List.getElem_cons_succ, Act.put, List.setIfInBounds_toArray, List.set_cons_zero, List.set_cons_succ])); (refine wpAnyT_take (i := 1) (v := ?_) rfl (by kernel_rfl) (by kernel_rfl) (by kernel_rfl) (by kernel_rfl) (by exact fun _ _ _ h => h) (Or.inl ⟨by rfl, ?_⟩) hS0 ?_; rotate_left 1; focus (intro w hSw; unfold WrF at hSw; (try dsimp only at hSw); go_simp; try with_reducible rfl); (try simp only [List.getElem_toArray, List.getElem_cons_zero, List.getElem_cons_succ, Act.put, List.setIfInBounds_toArray, List.set_cons_zero, List.set_cons_succ])); (refine wpAnyT_take (i := 2) (v := ?_) rfl (by kernel_rfl) (by kernel_rfl) (by kernel_rfl) (by kernel_rfl) (by exact fun _ _ _ h => h) (Or.inl ⟨by rfl, ?_⟩) hS0 ?_; rotate_left 1; focus (intro w hSw; unfold WrF at hSw; (try dsimp only at hSw); go_simp; try with_reducible rfl); (try simp only [List.getElem_toArray, List.getElem_cons_zero, List.getElem_cons_succ, Act.put, List.setIfInBounds_toArray, List.set_cons_zero, List.set_cons_succ])); (refine wpAnyT_take (i := 4) (v := ?_) rfl (by kernel_rfl) (by kernel_rfl) (by kernel_rfl) (by kernel_rfl) (by exact fun _ _ _ h => h) (Or.inl ⟨by rfl, ?_⟩) hS0 ?_; rotate_left 1; focus (intro w hSw; unfold WrF at hSw; (try dsimp only at hSw); go_simp; try with_reducible rfl); (try simp only [List.getElem_toArray, List.getElem_cons_zero, List.getElem_cons_succ, Act.put, List.setIfInBounds_toArray, List.set_cons_zero, List.set_cons_succ])); (refine wpAnyT_take (i := 5) (v := ?_) rfl (by kernel_rfl) (by kernel_rfl) (by kernel_rfl) (by kernel_rfl) (by exact fun _ _ _ h => h) (Or.inl ⟨by rfl, ?_⟩) hS0 ?_; rotate_left 1; focus (intro w hSw; unfold WrF at hSw; (try dsimp only at hSw); go_simp; try with_reducible rfl); (try simp only [List.getElem_toArray, List.getElem_cons_zero, List.getElem_cons_succ, Act.put, List.setIfInBounds_toArray, List.set_cons_zero, List.set_cons_succ])))
        clear hS0
        refine wpAnyT_one (i := 3) (by kernel_rfl) rfl (fun K hK => ?_)
        go_simp
        refine htx.out.mono ?_
        rintro e w5 ⟨v5, rfl, hb5, he5⟩
        have hx5 := hid (he5.block (k := wr.heap.size) hsz.out hso.out)
        have hso5 := hid (he5.ne (k := wr.heap.size) hsz.out hso.out)
        have hsz5 := hid (Nat.lt_of_lt_of_le hsz.out he5.size)
        have hr5 := hid (hxr.out.ext he5)
        replace hb5 := hid hb5
        replace he5 := hid he5
        (refine hK.out _ _ (fun _ => wrF_mk hrx.out hx5.out) (fun _ => ?_); clear hK K; (try simp only [Act.put, List.setIfInBounds_toArray, List.set_cons_zero, List.set_cons_succ]))
        refine wpAnyT_one (i := 6) (by kernel_rfl) rfl (fun K hK => ?_)
        go_simp
        refine (hcx.out _ _ _ _ hb5.out hr5.out (by have := hlx.out; simp only [List.length_append] at this ⊢; omega)).mono ?_
        rintro e w6 ⟨v6, rfl, hb6, he6⟩
        have hx6 := hid ((he6.block (k := wr.heap.size) hsz5.out hso5.out).trans hx5.out)
        replace hb6 := hid hb6
        replace he6 := hid he6
        (refine hK.out _ _ (fun _ => wrF_mk hrx.out hx6.out) (fun _ => ?_); clear hK K; (try simp only [Act.put, List.setIfInBounds_toArray, List.set_cons_zero, List.set_cons_succ]))
        refine wpAnyT_one (i := 7) (by kernel_rfl) rfl (fun K hK => ?_)
        go_simp
        (refine hK.out _ _ (fun h => absurd h (by decide)) (fun _ => ?_); clear hK K; (try simp only [Act.put, List.setIfInBounds_toArray, List.set_cons_zero, List.set_cons_succ]))
        refine wpAnyT_done (by kernel_rfl) ?_ _
        have he7 := hid (her.out.trans ((hew.out.trans he5.out).trans he6.out))
        go_wp2_with fail
        go_roundg (fv.length - (j + 1))
        case measure => omega
        case rel => exact ⟨j + 1, by omega, by go_num, by show Buf _ _ _ _ _ _; rw [hsx.out]; simpa using hb6.out, he7⟩
      · have he : encF (fn.take j) (fv.take j) = encF fn fv := by rw [List.take_of_length_le (by omega : fv.length ≤ j), List.take_of_length_le (by rw [hfl.out]; omega : fn.length ≤ j)]
        rw [he, ← hr.out] at hbr
        go_wp2_with fail
        go_ret
        exact ⟨_, rfl, hbr.out, hE.out.trans her.out⟩
  · replace hr : Hid (l0 ++ R = l0 ++ [b0]) := by show _ = _; rw [hr.out]; simp [h2, h3, h4, h5, h6]
    have b2 : (k == 2) = false := by simpa using h2
    have b3 : (k == 3) = false := by simpa using h3
    have b4 : (k == 4) = false := by simpa using h4
    have b5 : (k == 5) = false := by simpa using h5
    have b6 : (k == 6) = false := by simpa using h6
    go_wp2_with fail
    go_ret
    rw [hr.out]
    exact ⟨_, rfl, hb3.out, hE.out⟩
end Go.Proofs.YtihcegakghmdfaaDoor
