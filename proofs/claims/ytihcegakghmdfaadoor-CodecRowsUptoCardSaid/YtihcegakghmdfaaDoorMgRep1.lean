/-
  Walks: the reference's List, Reply.
  Walk: codec.PutReply.
  Walk: codec.GetReply: a reply's bytes.
  Walks: codec.GetReply where the bytes end too soon; fails.
-/
import Derived.Test.YtihcegakghmdfaaDoorMgHel
import Derived.Test.YtihcegakghmdfaaDoorMgVal19
import Derived.Test.YtihcegakghmdfaaDoorMgVal10
import Derived.Test.YtihcegakghmdfaaDoorMgEnc1
import Derived.Test.YtihcegakghmdfaaDoorMgDec1
import Derived.Test.YtihcegakghmdfaaDoorMgDecP
import Derived.Test.YtihcegakghmdfaaDoorMgApp
namespace Go.Proofs.YtihcegakghmdfaaDoor
open Go.RowKit Go.Proofs

theorem rd_loose {w : World} {S : Nat → Prop} {l : List PVal} {la : Option Addr} {c : Nat} (h : RdL w S l (.slice la l.length c)) : Rd w S (.mk 0 0 ByteArray.empty l [] []) [.int .i64 0, .int .i64 0, .string ByteArray.empty, .slice la l.length c, .slice none 0 0] := by
  obtain ⟨la', cap, cs, hv, h1, h2, h3, h4⟩ := h
  injection hv with e1 e2 e3
  subst e1 e3
  exact .mk (fv := []) (fn := []) cs (fun _ => []) ⟨by decide, by decide⟩ ⟨by decide, by decide⟩ (by decide) (by simp) rfl h1 h2 (Nat.le_refl _) ⟨by decide, by decide⟩ h3 h4 (.inl rfl) (fun i x hx => by simp at hx)

set_option maxRecDepth 100000 in
theorem rlist_calls (l : List PVal) {w : World} {la la' : Option Addr} {c c' : Nat} (h : RdL w (Now w) l (.slice la l.length c)) (h' : RdL w (Now w) l (.slice la' l.length c')) :
    Calls Tryd.prog 44 #[.slice la l.length c, .slice la' l.length c'] w fun e w' => e = .returned (.bool true) ∧ Below w.heap.size w w' := by
  have hs := hid (same_calls (.mk 0 0 ByteArray.empty l [] []) (.mk 0 0 ByteArray.empty l [] []) true (by simp) w _ _ (rd_loose h) (rd_loose h'))
  clear h h'
  go_enter Tryd.func44, Tryd.ntmps44
  go_wp2_with fail
  refine hs.out.mono ?_
  rintro e w1 ⟨rfl, h1⟩
  go_wp2_with fail
  go_ret
  exact ⟨rfl, h1⟩

set_option maxRecDepth 100000 in
theorem rreply_calls (E N : Int) (l : List PVal) {w : World} {la la' : Option Addr} {c c' : Nat} (h : RdL w (Now w) l (.slice la l.length c)) (h' : RdL w (Now w) l (.slice la' l.length c')) :
    Calls Tryd.prog 57 #[.agg #[.int .i64 E, .int .i64 N, .slice la l.length c], .agg #[.int .i64 E, .int .i64 N, .slice la' l.length c']] w fun e w' => e = .returned (.bool true) ∧ Below w.heap.size w w' := by
  have hB := hid ((below_new w (.cells #[.int .i64 E, .int .i64 N, .slice la l.length c] 82)).step (below_new _ (.cells #[.int .i64 E, .int .i64 N, .slice la' l.length c'] 82)))
  have hs := hid (fun (w' : World) (hb : Below w.heap.size w w') => rlist_calls l (h.later hb) (h'.later hb))
  clear h h'
  go_enter Tryd.func57, Tryd.ntmps57
  go_wp2_with fail
  refine (hs.out _ hB.out).mono ?_
  rintro e w1 ⟨rfl, h1⟩
  go_wp2_with fail
  go_ret
  exact ⟨rfl, hB.out.step h1⟩
end Go.Proofs.YtihcegakghmdfaaDoor

namespace Go.Proofs.YtihcegakghmdfaaDoor
open Go.RowKit Go.Proofs

/-- A reply's bytes. -/
def repB (E N : Nat) (ds : List PVal) : List UInt8 := varint E ++ varint N ++ varint ds.length ++ encL ds
/-- What a region reads: a box of three cells. -/
def Bx3 (g : Nat) (v0 v1 v2 : Value) (x : World) : Prop := x.cell? ⟨g, 0, none⟩ = some v0 ∧ x.cell? ⟨g, 1, none⟩ = some v1 ∧ x.cell? ⟨g, 2, none⟩ = some v2
theorem bx3_mk {w w' : World} {g : Nat} {v0 v1 v2 : Value} {u : TypeId} (hg : w.heap[g]? = some (.cells #[v0, v1, v2] u (0, 0))) (h2 : w'.heap[g]? = w.heap[g]?) : Bx3 g v0 v1 v2 w' :=
  ⟨box_at (h2.trans hg) rfl, box_at (h2.trans hg) rfl, box_at (h2.trans hg) rfl⟩
theorem Buf.off2 {B : Nat} {e : TypeId} {W0 w : World} {l : List UInt8} {v : Value} (h : Buf B e W0 w l v) {b : Nat} (hb : b < B) (hB : B ≤ w.heap.size) : Off v w b := by
  refine ⟨Nat.lt_of_lt_of_le hb hB, fun e => ?_⟩
  rcases h.1.2 with ⟨h1, _⟩ | ⟨g, cap, cur, fz, hv, h2, _⟩
  · subst h1; simp [Value.ownBlock] at e
  · subst hv
    simp [Value.ownBlock] at e
    omega
theorem wrap_u64 {n : Nat} (h : n < 18446744073709551616) : IntKind.u64.wrap (n : Int) = (n : Int) := by
  rw [IntKind.wrap]
  simp only [IntKind.bits, IntKind.signed]
  simp
  omega

set_option maxRecDepth 100000 in
theorem putReply_many (E N : Int) (hE : 0 ≤ E ∧ E ≤ 255) (hN : 0 ≤ N ∧ N ≤ 2147483647) (n : Nat) (hn : 64 < n) (la : Option Addr) (c : Nat) (w : World) :
    Calls Tryd.prog 55 #[.agg #[.int .i64 E, .int .i64 N, .slice la n c]] w fun e w' => e = .returned (.tuple #[.slice none 0 0, .int .i64 1]) ∧ Below w.heap.size w w' := by
  have g1 : ¬ E < 0 := by omega
  have g2 : ¬ 255 < E := by omega
  have g3 : ¬ N < 0 := by omega
  have g4 : ¬ 2147483647 < N := by omega
  have g5 : (64 : Int) < (n : Int) := by omega
  go_enter Tryd.func55, Tryd.ntmps55
  go_wp2_with fail
  go_returns
  exact ⟨rfl, below_new _ _⟩

set_option maxRecDepth 100000 in
set_option maxHeartbeats 4000000 in
theorem putReply_calls (E N : Nat) (hE : E ≤ 255) (hN : N ≤ 2147483647) (ds : List PVal) (hg : ∀ x ∈ ds, x.good = 0 ∧ x.nodes ≤ 20000) (hlen : ds.length ≤ 64) (hsz : (encL ds).length ≤ 17592186044416) {w : World} {la : Option Addr} {c : Nat} (hT : Tabs w) (hL : RdL w (Now w) ds (.slice la ds.length c)) :
    Calls Tryd.prog 55 #[.agg #[.int .i64 (E : Int), .int .i64 (N : Int), .slice la ds.length c]] w fun e w' => ∃ v, e = .returned (.tuple #[v, .int .i64 0]) ∧ Buf w.heap.size 5 w w' (repB E N ds) v := by
  have hT := hid (fun w' hb => Tabs.stays w w' hT hb)
  have hL0 := hid hL
  clear hL
  have hva := hid (fun (n : Nat) (hn : n < 18446744073709551616) (W0 w : World) (B : Nat) (l : List UInt8) (v : Value) (hb : Buf B 5 W0 w l v) (hl : l.length + 10 ≤ 140737488355328) => varint_calls n hn hb hl)
  have hcl := hid (fun (w : World) (l : List UInt8) (g c : Nat) (hs : Src w g l) (hl : l.length ≤ 140737488355328) => clip_calls (c := c) hs hl)
  have g1 : ¬ (E : Int) < 0 := by omega
  have g2 : ¬ (255 : Int) < (E : Int) := by omega
  have g3 : ¬ (N : Int) < 0 := by omega
  have g4 : ¬ (2147483647 : Int) < (N : Int) := by omega
  have g5 : ¬ (64 : Int) < (ds.length : Int) := by omega
  have k1 : IntKind.u64.wrap (E : Int) = (E : Int) := wrap_u64 (by omega)
  have k2 : IntKind.u64.wrap (N : Int) = (N : Int) := wrap_u64 (by omega)
  have k3 : IntKind.u64.wrap (ds.length : Int) = (ds.length : Int) := wrap_u64 (by omega)
  go_enter Tryd.func55, Tryd.ntmps55
  go_upto_region 1 with fail
  obtain ⟨w1, hw1⟩ : ∃ w1, w1 = w.alloc (.cells #[.int .i64 (E : Int), .int .i64 (N : Int), .slice la ds.length c] 82) := ⟨_, rfl⟩
  have h1 : Below w.heap.size w w1 := by rw [hw1]; exact below_new _ _
  have r1 : Hid (w1.heap[w.heap.size]? = some (.cells #[.int .i64 (E : Int), .int .i64 (N : Int), .slice la ds.length c] 82 (0, 0))) := by show _ = _; rw [hw1]; exact heap_alloc_new _ _
  rw [← hw1]
  clear hw1
  replace h1 := hid h1
  have a0 := box_at (j := 0) r1.out rfl
  have a1 := box_at (j := 1) r1.out rfl
  have a2 := box_at (j := 2) r1.out rfl
  go_upto_region 3 with fail
  clear a0 a1 a2
  refine wp_region_T (Bx3 w.heap.size (.int .i64 (E : Int)) (.int .i64 (N : Int)) (.slice la ds.length c)) 14 (by kernel_rfl) ?_
  have hS0 : Bx3 w.heap.size (.int .i64 (E : Int)) (.int .i64 (N : Int)) (.slice la ds.length c) w1.drew := bx3_mk r1.out rfl
  ((refine wpAnyT_take (i := 0) (v := ?_) rfl (by kernel_rfl) (by kernel_rfl) (by kernel_rfl) (by kernel_rfl) (by exact fun _ _ _ h => h) (Or.inl ⟨by kernel_rfl, ?_⟩) hS0 ?_; rotate_left 1; focus (intro w hSw; unfold Bx3 at hSw; (try dsimp only at hSw); go_simp; try with_reducible rfl); (try simp only [List.getElem_toArray, List.getElem_cons_zero, List.getElem_cons_succ, Act.put, List.setIfInBounds_toArray, List.set_cons_zero, List.set_cons_succ])); (refine wpAnyT_take (i := 1) (v := ?_) rfl (by kernel_rfl) (by kernel_rfl) (by kernel_rfl) (by kernel_rfl) (by exact fun _ _ _ h => h) (Or.inl ⟨by kernel_rfl, ?_⟩) hS0 ?_; rotate_left 1; focus (intro w hSw; unfold Bx3 at hSw; (try dsimp only at hSw); go_simp; try with_reducible rfl); (try simp only [List.getElem_toArray, List.getElem_cons_zero, List.getElem_cons_succ, Act.put, List.setIfInBounds_toArray, List.set_cons_zero, List.set_cons_succ])); (refine wpAnyT_take (i := 2) (v := ?_) rfl (by kernel_rfl) (by kernel_rfl) (by kernel_rfl) (by kernel_rfl) (by exact fun _ _ _ h => h) (Or.inl ⟨by kernel_rfl, ?_⟩) hS0 ?_; rotate_left 1; focus (intro w hSw; unfold Bx3 at hSw; (try dsimp only at hSw); go_simp; try with_reducible rfl); (try simp only [List.getElem_toArray, List.getElem_cons_zero, List.getElem_cons_succ, Act.put, List.setIfInBounds_toArray, List.set_cons_zero, List.set_cons_succ])); (refine wpAnyT_take (i := 4) (v := ?_) rfl (by kernel_rfl) (by kernel_rfl) (by kernel_rfl) (by kernel_rfl) (by exact fun _ _ _ h => h) (Or.inl ⟨by kernel_rfl, ?_⟩) hS0 ?_; rotate_left 1; focus (intro w hSw; unfold Bx3 at hSw; (try dsimp only at hSw); go_simp; try with_reducible rfl); (try simp only [List.getElem_toArray, List.getElem_cons_zero, List.getElem_cons_succ, Act.put, List.setIfInBounds_toArray, List.set_cons_zero, List.set_cons_succ])); (refine wpAnyT_take (i := 5) (v := ?_) rfl (by kernel_rfl) (by kernel_rfl) (by kernel_rfl) (by kernel_rfl) (by exact fun _ _ _ h => h) (Or.inl ⟨by kernel_rfl, ?_⟩) hS0 ?_; rotate_left 1; focus (intro w hSw; unfold Bx3 at hSw; (try dsimp only at hSw); go_simp; try with_reducible rfl); (try simp only [List.getElem_toArray, List.getElem_cons_zero, List.getElem_cons_succ, Act.put, List.setIfInBounds_toArray, List.set_cons_zero, List.set_cons_succ])); (refine wpAnyT_take (i := 6) (v := ?_) rfl (by kernel_rfl) (by kernel_rfl) (by kernel_rfl) (by kernel_rfl) (by exact fun _ _ _ h => h) (Or.inl ⟨by kernel_rfl, ?_⟩) hS0 ?_; rotate_left 1; focus (intro w hSw; unfold Bx3 at hSw; (try dsimp only at hSw); go_simp; try with_reducible rfl); (try simp only [List.getElem_toArray, List.getElem_cons_zero, List.getElem_cons_succ, Act.put, List.setIfInBounds_toArray, List.set_cons_zero, List.set_cons_succ])); (refine wpAnyT_take (i := 8) (v := ?_) rfl (by kernel_rfl) (by kernel_rfl) (by kernel_rfl) (by kernel_rfl) (by exact fun _ _ _ h => h) (Or.inl ⟨by kernel_rfl, ?_⟩) hS0 ?_; rotate_left 1; focus (intro w hSw; unfold Bx3 at hSw; (try dsimp only at hSw); go_simp; try with_reducible rfl); (try simp only [List.getElem_toArray, List.getElem_cons_zero, List.getElem_cons_succ, Act.put, List.setIfInBounds_toArray, List.set_cons_zero, List.set_cons_succ])); (refine wpAnyT_take (i := 9) (v := ?_) rfl (by kernel_rfl) (by kernel_rfl) (by kernel_rfl) (by kernel_rfl) (by exact fun _ _ _ h => h) (Or.inl ⟨by kernel_rfl, ?_⟩) hS0 ?_; rotate_left 1; focus (intro w hSw; unfold Bx3 at hSw; (try dsimp only at hSw); go_simp; try with_reducible rfl); (try simp only [List.getElem_toArray, List.getElem_cons_zero, List.getElem_cons_succ, Act.put, List.setIfInBounds_toArray, List.set_cons_zero, List.set_cons_succ])); (refine wpAnyT_take (i := 10) (v := ?_) rfl (by kernel_rfl) (by kernel_rfl) (by kernel_rfl) (by kernel_rfl) (by exact fun _ _ _ h => h) (Or.inl ⟨by kernel_rfl, ?_⟩) hS0 ?_; rotate_left 1; focus (intro w hSw; unfold Bx3 at hSw; (try dsimp only at hSw); go_simp; try with_reducible rfl); (try simp only [List.getElem_toArray, List.getElem_cons_zero, List.getElem_cons_succ, Act.put, List.setIfInBounds_toArray, List.set_cons_zero, List.set_cons_succ])); (refine wpAnyT_take (i := 11) (v := ?_) rfl (by kernel_rfl) (by kernel_rfl) (by kernel_rfl) (by kernel_rfl) (by exact fun _ _ _ h => h) (Or.inl ⟨by kernel_rfl, ?_⟩) hS0 ?_; rotate_left 1; focus (intro w hSw; unfold Bx3 at hSw; (try dsimp only at hSw); go_simp; try with_reducible rfl); (try simp only [List.getElem_toArray, List.getElem_cons_zero, List.getElem_cons_succ, Act.put, List.setIfInBounds_toArray, List.set_cons_zero, List.set_cons_succ])))
  clear hS0
  refine wpAnyT_one (i := 3) (by kernel_rfl) rfl (fun K hK => ?_)
  go_simp
  refine (hva.out E (by omega) w1 w1.drew w1.heap.size [] _ (Buf.nil (Below.refl _ _).drew (Nat.le_refl _)) (by simp)).mono ?_
  rintro e w2 ⟨v2, rfl, hb2, _⟩
  rw [List.nil_append] at hb2
  have hS2 := bx3_mk r1.out (hb2.below.block _ (lt_of_block r1.out))
  (refine hK.out _ _ (fun _ => hS2) (fun _ => ?_); clear hK K; (try simp only [Act.put, List.setIfInBounds_toArray, List.set_cons_zero, List.set_cons_succ]))
  clear hS2
  refine wpAnyT_one (i := 7) (by kernel_rfl) rfl (fun K hK => ?_)
  go_simp
  have hd1 := digits_le E (by omega)
  have hd2 := digits_le N (by omega)
  have hd3 := digits_le ds.length (by omega)
  refine (hva.out N (by omega) w1 w2 w1.heap.size _ _ hb2 (by rw [varint_length]; omega)).mono ?_
  rintro e w3 ⟨v3, rfl, hb3, _⟩
  clear hb2
  have hS3 := bx3_mk r1.out (hb3.below.block _ (lt_of_block r1.out))
  (refine hK.out _ _ (fun _ => hS3) (fun _ => ?_); clear hK K; (try simp only [Act.put, List.setIfInBounds_toArray, List.set_cons_zero, List.set_cons_succ]))
  clear hS3
  refine wpAnyT_one (i := 12) (by kernel_rfl) rfl (fun K hK => ?_)
  go_simp
  refine (hva.out ds.length (by omega) w1 w3 w1.heap.size _ _ hb3 (by rw [List.length_append, varint_length, varint_length]; omega)).mono ?_
  rintro e w4 ⟨v4, rfl, hb4, _⟩
  clear hb3
  have hS4 := bx3_mk r1.out (hb4.below.block _ (lt_of_block r1.out))
  (refine hK.out _ _ (fun _ => hS4) (fun _ => ?_); clear hK K; (try simp only [Act.put, List.setIfInBounds_toArray, List.set_cons_zero, List.set_cons_succ]))
  ((refine wpAnyT_take (i := 13) (v := ?_) rfl (by kernel_rfl) (by kernel_rfl) (by kernel_rfl) (by kernel_rfl) (by exact fun _ _ _ h => h) (Or.inl ⟨by kernel_rfl, ?_⟩) hS4 ?_; rotate_left 1; focus (intro w hSw; unfold Bx3 at hSw; (try dsimp only at hSw); go_simp; try with_reducible rfl); (try simp only [List.getElem_toArray, List.getElem_cons_zero, List.getElem_cons_succ, Act.put, List.setIfInBounds_toArray, List.set_cons_zero, List.set_cons_succ])))
  refine wpAnyT_done (by kernel_rfl) ?_ _
  clear hS4
  have hpl : (varint E ++ varint N ++ varint ds.length).length ≤ 30 := by rw [List.length_append, List.length_append, varint_length, varint_length, varint_length]; omega
  have hpn : varint E ++ varint N ++ varint ds.length ≠ [] := by
    have := varint_ne E
    simp [this]
  obtain ⟨pre, hpre⟩ : ∃ pre, pre = varint E ++ varint N ++ varint ds.length := ⟨_, rfl⟩
  rw [← hpre] at hb4 hpl hpn
  have hB1 := hid h1.out.size
  replace hb4 := hid hb4
  clear hd1 hd2 hd3 hva k1 k2 k3
  have hr4 := hid ((hb4.out.below.block _ (lt_of_block r1.out)).trans r1.out)
  have a0 := box_at (j := 0) hr4.out rfl
  have a1 := box_at (j := 1) hr4.out rfl
  have a2 := box_at (j := 2) hr4.out rfl
  go_wp2_with fail
  clear a0 a1 a2 g1 g2 g3 g4 hr4
  go_loopg [4, 6, 7, 48] ds.length (fun g o p f i wr => ∃ j : Nat, g + j = ds.length ∧ i = .int .i64 j ∧ Buf w1.heap.size 5 w1 wr (pre ++ encL (ds.take j)) o)
  case atStart => exact ⟨0, by omega, rfl, by simpa [encL] using hb4.out⟩
  case round =>
    clear hb4
    obtain ⟨j, hj, rfl, hb⟩ := hrel
    have D := hid (h1.out.step hb.below)
    have hsz1 : w1.heap.size ≤ wr.heap.size := hb.2.2
    by_cases hlt : j < ds.length
    · obtain ⟨x, hx⟩ : ∃ x, ds[j]? = some x := ⟨_, List.getElem?_eq_getElem hlt⟩
      obtain ⟨b, off, cs, rfl, _, hc, hr⟩ := (hL0.out.keep (S' := fun b => b < w.heap.size) (fun b h => h) (fun b h => D.out.block b h)).at_ hx
      have hgx := hg x (List.mem_of_getElem? hx)
      have hgo := hid (fun w cs hT h => good_calls x w cs hgx.2 hT h)
      rw [hgx.1] at hgo
      have hsx : encL (ds.take (j + 1)) = encL (ds.take j) ++ x.enc := encL_succ hx
      have hszs : (encL (ds.take j)).length + x.enc.length ≤ 17592186044416 := by
        have e1 := congrArg List.length hsx
        rw [List.length_append] at e1
        have e2 := congrArg List.length (encL_append (ds.take (j + 1)) (ds.drop (j + 1)))
        rw [List.take_append_drop, List.length_append] at e2
        omega
      have hwr := hid (fun (w' : World) (o' : Value) (cs : List Value) (hbb : Buf w1.heap.size 5 w1 w' (pre ++ encL (ds.take j)) o') (h : Rd w' (Off o' w') x cs) => written_calls x hbb h (by rw [List.length_append]; omega))
      replace hsx := hid hsx
      replace hr := hid hr
      clear hgx
      obtain ⟨xk, xn, xs, xl, xfn, xfv⟩ := x
      obtain ⟨xa, xc, za, zc, rfl, _⟩ := hr.out.inv
      have c0 := hc 0 _ rfl
      have c1 := hc 1 _ rfl
      have c2 := hc 2 _ rfl
      have c3 := hc 3 _ rfl
      have c4 := hc 4 _ rfl
      rw [Nat.add_zero] at c0
      replace hb := hid hb
      clear hc hszs
      go_upto_region 7 with fail
      obtain ⟨wn, hwn⟩ : ∃ wn, wn = wr.alloc (.cells #[.int .i64 xk, .int .i64 xn, .string xs, .slice xa xl.length xc, .slice za xfv.length zc] 25) := ⟨_, rfl⟩
      have hn : Below wr.heap.size wr wn := by rw [hwn]; exact below_new _ _
      have rn : Hid (wn.heap[wr.heap.size]? = some (.cells #[.int .i64 xk, .int .i64 xn, .string xs, .slice xa xl.length xc, .slice za xfv.length zc] 25 (0, 0))) := by show _ = _; rw [hwn]; exact heap_alloc_new _ _
      rw [← hwn]
      clear hwn c0 c1 c2 c3 c4
      replace D := hid (D.out.step hn)
      replace hb := hid (hb.out.later hn)
      have hrn : Hid (Rd wn (fun b => b < w.heap.size) _ _) := hr.out.keep (fun b h => h) (fun b h => hn.block b (by have : b < w.heap.size := h; have := hB1.out; omega))
      clear hr hn
      have a0 := box_at (j := 0) rn.out rfl
      have a1 := box_at (j := 1) rn.out rfl
      have a2 := box_at (j := 2) rn.out rfl
      have a3 := box_at (j := 3) rn.out rfl
      have a4 := box_at (j := 4) rn.out rfl
      go_wp2_with fail
      clear a0 a1 a2 a3 a4
      refine (hgo.out _ _ (hT.out _ D.out) (hrn.out.keep (S' := Now wn) (fun b h => Nat.lt_of_lt_of_le h D.out.size) (fun _ _ => rfl))).mono ?_
      rintro e w5 ⟨rfl, h5⟩
      replace rn := hid ((h5.block _ (lt_of_block rn.out)).trans rn.out)
      replace hb := hid (hb.out.later h5)
      have hr5 : Hid (Rd w5 (fun b => b < w.heap.size) _ _) := hrn.out.keep (fun b h => h) (fun b h => h5.block b (Nat.lt_of_lt_of_le h D.out.size))
      replace D := hid (D.out.step h5)
      clear h5 hrn
      have a0 := box_at (j := 0) rn.out rfl
      have a1 := box_at (j := 1) rn.out rfl
      have a2 := box_at (j := 2) rn.out rfl
      have a3 := box_at (j := 3) rn.out rfl
      have a4 := box_at (j := 4) rn.out rfl
      go_wp2_with fail
      clear a0 a1 a2 a3 a4
      refine (hwr.out _ _ _ hb.out (hr5.out.keep (fun b h => hb.out.off2 (by have : b < w.heap.size := h; have := hB1.out; omega) hb.out.2.2) (fun _ _ => rfl))).mono ?_
      rintro e w6 ⟨v6, rfl, hb6, _⟩
      rw [List.append_assoc, ← hsx.out] at hb6
      replace hb6 := hid hb6
      go_wp2_with fail
      go_roundg (ds.length - (j + 1))
      case measure => omega
      case rel => exact ⟨j + 1, by omega, by go_num, hb6.out⟩
    · have hj2 : ds.take j = ds := List.take_of_length_le (by omega)
      rw [hj2] at hb
      have hsl : (pre ++ encL ds).length ≤ 140737488355328 := by rw [List.length_append]; omega
      have hpr : pre ++ encL ds = repB E N ds := by rw [hpre]; rfl
      have hne : pre ++ encL ds ≠ [] := by simp [hpn]
      generalize pre ++ encL ds = LL at *
      obtain ⟨pg, pc, rfl, _⟩ := hb.form hne
      replace hb := hid hb
      replace hpr := hid hpr
      clear hj2 hpn hpl hpre hne
      go_wp2_with fail
      refine (hcl.out _ _ _ _ hb.out.src hsl).mono ?_
      rintro e w6 ⟨v6, rfl, hb6⟩
      replace hb6 := hid hb6
      go_wp2_with fail
      go_returns
      refine ⟨_, rfl, ?_⟩
      rw [← hpr.out]
      exact hb6.out.base D.out.size D.out
end Go.Proofs.YtihcegakghmdfaaDoor

namespace Go.Proofs.YtihcegakghmdfaaDoor
open Go.RowKit Go.Proofs

/-- The three boxes of GetReply: what is told, the error, the reader. -/
structure GR (w0 : World) (v0 v1 v2 bv : Value) (p : Int) (w : World) : Prop where
  r0 : w.heap[w0.heap.size]? = some (.cells #[v0, v1, v2] 82 (0, 0))
  r1 : w.heap[w0.heap.size + 1]? = some (.cells #[.int .i64 0] 28 (0, 0))
  rg : w.heap[w0.heap.size + 1 + 1]? = some (.cells #[bv, .int .i64 p] 101 (0, 0))
  low : Below w0.heap.size w0 w
section
variable {w0 w w' : World} {v0 v1 v2 bv : Value} {p : Int}
theorem GR.later (h : GR w0 v0 v1 v2 bv p w) (hb : Below w.heap.size w w') : GR w0 v0 v1 v2 bv p w' :=
  ⟨(hb.block _ (lt_of_block h.r0)).trans h.r0, (hb.block _ (lt_of_block h.r1)).trans h.r1, (hb.block _ (lt_of_block h.rg)).trans h.rg, h.low.step hb⟩
theorem GR.saved (h : GR w0 v0 v1 v2 bv p w) (hs : Save (w0.heap.size + 1 + 1) w w') {q : Int} (hr : w'.heap[w0.heap.size + 1 + 1]? = some (.cells #[bv, .int .i64 q] 101 (0, 0))) : GR w0 v0 v1 v2 bv q w' :=
  ⟨(hs.block _ (lt_of_block h.r0) (by omega)).trans h.r0, (hs.block _ (lt_of_block h.r1) (by omega)).trans h.r1, hr, h.low.trans (hs.below (by omega) (lt_of_block h.rg))⟩
theorem GR.put0 (h : GR w0 v0 v1 v2 bv p w) (u : Value) : GR w0 u v1 v2 bv p (w.setCell ⟨w0.heap.size, 0, none⟩ u) :=
  ⟨row_setCell h.r0, (Below.heap_setCell _ _ _ _ (by simp)).trans h.r1, (Below.heap_setCell _ _ _ _ (by simp; omega)).trans h.rg, h.low.setCell (p := ⟨w0.heap.size, 0, none⟩) (Nat.le_refl _) u⟩
theorem GR.put1 (h : GR w0 v0 v1 v2 bv p w) (u : Value) : GR w0 v0 u v2 bv p (w.setCell ⟨w0.heap.size, 1, none⟩ u) :=
  ⟨row_setCell h.r0, (Below.heap_setCell _ _ _ _ (by simp)).trans h.r1, (Below.heap_setCell _ _ _ _ (by simp; omega)).trans h.rg, h.low.setCell (p := ⟨w0.heap.size, 1, none⟩) (Nat.le_refl _) u⟩
theorem GR.put2 (h : GR w0 v0 v1 v2 bv p w) (u : Value) : GR w0 v0 v1 u bv p (w.setCell ⟨w0.heap.size, 2, none⟩ u) :=
  ⟨row_setCell h.r0, (Below.heap_setCell _ _ _ _ (by simp)).trans h.r1, (Below.heap_setCell _ _ _ _ (by simp; omega)).trans h.rg, h.low.setCell (p := ⟨w0.heap.size, 2, none⟩) (Nat.le_refl _) u⟩
theorem GR.move (h : GR w0 v0 v1 v2 bv p w) (q : Int) : GR w0 v0 v1 v2 bv q (w.setCell ⟨w0.heap.size + 1 + 1, 1, none⟩ (.int .i64 q)) :=
  ⟨(Below.heap_setCell _ _ _ _ (by simp; omega)).trans h.r0, (Below.heap_setCell _ _ _ _ (by simp)).trans h.r1, row_setCell h.rg, h.low.setCell (p := ⟨w0.heap.size + 1 + 1, 1, none⟩) (by simp; omega) _⟩
theorem GR.grow (h : GR w0 v0 v1 v2 bv p w) {o : Option Nat} (hg : w.grownBy w' o) (ho : ∀ k, o = some k → w0.heap.size + 3 ≤ k) : GR w0 v0 v1 v2 bv p w' :=
  have key : ∀ b, b < w0.heap.size + 3 → b < w.heap.size → w'.heap[b]? = w.heap[b]? := fun b h1 h2 => hg.block b h2 (fun e => by have := ho b e.symm; omega)
  ⟨(key _ (by omega) (lt_of_block h.r0)).trans h.r0, (key _ (by omega) (lt_of_block h.r1)).trans h.r1, (key _ (by omega) (lt_of_block h.rg)).trans h.rg,
    h.low.trans ⟨hg.os, hg.tape, hg.output, hg.size, fun k hk => key k (by omega) (Nat.lt_of_lt_of_le hk h.low.size)⟩⟩
theorem GR.at_ {l : List UInt8} {q : Nat} (h : GR w0 v0 v1 v2 bv (q : Int) w) (hb : BytesAt w0 (Now w0) l bv) (hq : q ≤ l.length) (hl : l.length ≤ 140737488355328) : At w (w0.heap.size + 1 + 1) bv l q :=
  ⟨h.rg, hb.keep (fun b hb => by have : b < w0.heap.size := hb; omega) (fun b hb => h.low.block b hb), hq, hl⟩
end
theorem many_ok {most n : Nat} {c : Int} {r : List UInt8} (h : n ≤ most) (hm : most < 18446744073709551616) : manyR most c (varint n ++ r) = .ok n (varint n).length := by
  unfold manyR
  rw [num_varint (by omega)]
  simp only
  rw [if_neg (by omega)]

set_option maxRecDepth 100000 in
theorem reply_idle (a b : Value) (w : World) :
    CallsD Tryd.prog 92 #[a, b] .returning w fun e u' w' => e = .returned (.tuple #[]) ∧ u' = .returning ∧ w' = w := by
  refine callsD_of_wpS Tryd.func92 rfl fun c₀ cs hu => ?_
  apply wpS_seq
  apply wpS_region
  simp [wpOpsS, go_sem, recoverD, hu, Tryd.ntmps92, Exit.thenS]
  refine wpS_of_wp ?_
  go_wp2_with fail
  cases c₀
  simp_all [bodyPostS, results, Tryd.results92]

set_option maxRecDepth 100000 in
set_option maxHeartbeats 4000000 in
theorem getReply_calls (E N : Nat) (hE : E ≤ 255) (hN : N ≤ 2147483647) (ds : List PVal) (hg : ∀ x ∈ ds, x.good = 0 ∧ x.fits) (hlen : ds.length ≤ 64) {w : World} {bv : Value} (hb : BytesAt w (Now w) (repB E N ds) bv) (hT : Tabs w) (hl : (repB E N ds).length ≤ 140737488355328) :
    Calls Tryd.prog 56 #[bv] w fun e w' => ∃ la c, e = .returned (.tuple #[.agg #[.int .i64 (E : Int), .int .i64 (N : Int), .slice la ds.length c], .int .i64 0]) ∧ Below w.heap.size w w' ∧ RdL w' (Now w') ds (.slice la ds.length c) := by
  have hmf : ∀ (fn : Fn) (first cap : Array Value) (w : World), (Instr.makeFunc fn first cap).run Tryd.prog w = .ok (.func fn first cap) w := fun _ _ _ _ => rfl
  obtain ⟨l, hl0⟩ : ∃ l, l = repB E N ds := ⟨_, rfl⟩
  rw [← hl0] at hb hl
  have hb0 := hid hb
  obtain ⟨a, cap, rfl, hc1, hc2, _⟩ := hb
  have hT := hid (fun w' hb => Tabs.stays w w' hT hb)
  have hmy := hid must_yes
  obtain ⟨i0, hi, hz0, hz1, hz2⟩ := info_parts info52
  obtain ⟨p1, hp1⟩ : ∃ p1, p1 = (varint E).length := ⟨_, rfl⟩
  obtain ⟨p2, hp2⟩ : ∃ p2, p2 = p1 + (varint N).length := ⟨_, rfl⟩
  obtain ⟨p3, hp3⟩ : ∃ p3, p3 = p2 + (varint ds.length).length := ⟨_, rfl⟩
  have hlL : l.length = p3 + (encL ds).length := by rw [hl0, repB]; simp only [List.length_append]; omega
  have d1 : l.drop 0 = varint E ++ (varint N ++ (varint ds.length ++ encL ds)) := by rw [hl0, repB]; simp
  have d2 : l.drop p1 = varint N ++ (varint ds.length ++ encL ds) := by
    have : l = varint E ++ (varint N ++ (varint ds.length ++ encL ds)) := by simpa using d1
    rw [this, hp1, List.drop_left]
  have d3 : l.drop p2 = varint ds.length ++ encL ds := by
    rw [hp2, ← List.drop_drop, d2, List.drop_left]
  have d4 : l.drop p3 = encL ds := by
    rw [hp3, ← List.drop_drop, d3, List.drop_left]
  have m1 := hid (fun (w' : World) (v0 v1 v2 : Value) (h : GR w v0 v1 v2 (.slice a l.length cap) ((0 : Nat) : Int) w') => many_calls 255 4 (by omega) (h.at_ hb0.out (by omega) hl))
  rw [d1, many_ok hE (by omega), ← hp1] at m1
  have m2 := hid (fun (w' : World) (v0 v1 v2 : Value) (h : GR w v0 v1 v2 (.slice a l.length cap) (p1 : Int) w') => many_calls 2147483647 4 (by omega) (h.at_ hb0.out (by omega) hl))
  rw [d2, many_ok hN (by omega)] at m2
  have m3 := hid (fun (w' : World) (v0 v1 v2 : Value) (h : GR w v0 v1 v2 (.slice a l.length cap) (p2 : Int) w') => many_calls 64 4 (by omega) (h.at_ hb0.out (by omega) hl))
  rw [d3, many_ok hlen (by omega)] at m3
  clear d1 d2 d3
  have hta : Hid (∀ (j : Nat) (x : PVal), ds[j]? = some x → takeAt l ((p3 + (encL (ds.take j)).length : Nat) : Int) = .ok x x.enc.length ∧ p3 + (encL (ds.take j)).length + x.enc.length ≤ l.length ∧ encL (ds.take (j + 1)) = encL (ds.take j) ++ x.enc) := fun j x hx => by
    have hgx := hg x (List.mem_of_getElem? hx)
    have e1 : encL ds = encL (ds.take j) ++ encL (ds.drop j) := by rw [← encL_append, List.take_append_drop]
    have e2 : ds.drop j = x :: ds.drop (j + 1) := by
      obtain ⟨hj, rfl⟩ := List.getElem?_eq_some_iff.1 hx
      exact List.drop_eq_getElem_cons hj
    have e3 := congrArg List.length e1
    rw [List.length_append, e2] at e3
    simp only [encL, List.length_append] at e3
    refine ⟨?_, by omega, encL_succ hx⟩
    unfold takeAt
    rw [if_neg (by omega), Int.toNat_natCast, ← List.drop_drop, d4, e1, List.drop_left, e2]
    exact takeR_enc hgx.1 hgx.2 _
  obtain ⟨W3, hW3⟩ : ∃ W3, W3 = ((w.alloc (.cells #[.int .i64 0, .int .i64 0, .slice none 0 0] 82)).alloc (.cells #[.int .i64 0] 28)).alloc (.cells #[.slice a l.length cap, .int .i64 0] 101) := ⟨_, rfl⟩
  have G3 : Hid (GR w (.int .i64 0) (.int .i64 0) (.slice none 0 0) (.slice a l.length cap) ((0 : Nat) : Int) W3) := by
    show GR _ _ _ _ _ _ _
    rw [hW3]
    exact ⟨al_old (al_old (al_at rfl)), al_old (al_at (by simp)), al_at (by simp), ((below_new _ _).step (below_new _ _)).step (below_new _ _)⟩
  replace hp1 := hid hp1
  replace hp2 := hid hp2
  replace hp3 := hid hp3
  replace hlL := hid hlL
  replace d4 := hid d4
  replace hl0 := hid hl0
  go_enter_defers Tryd.func56, Tryd.ntmps56
  go_wp2_with fail
  rw [← hW3]
  clear hW3
  refine (m1.out _ _ _ _ G3.out).mono ?_
  rintro e w4 ⟨hs4, v4, rfl, ⟨rfl, _⟩, ha4⟩
  have G4 := hid (G3.out.saved hs4 ha4.row)
  rw [Nat.zero_add] at G4
  clear G3 hs4 ha4
  have c0 := box_at (j := 0) G4.out.r0 rfl
  have f0 := box_free G4.out.r0 0
  have G5 := hid (G4.out.put0 (.int .i64 (E : Int)))
  go_upto_region 4 with fail
  generalize w4.setCell ⟨w.heap.size, 0, none⟩ (.int .i64 (E : Int)) = w5 at *
  clear c0 f0 G4
  go_wp2_with fail
  refine (m2.out _ _ _ _ G5.out).mono ?_
  rintro e w6 ⟨hs6, v6, rfl, ⟨rfl, _⟩, ha6⟩
  have G6 := hid (G5.out.saved hs6 ha6.row)
  rw [← hp2.out] at G6
  clear G5 hs6 ha6
  have c0 := box_at (j := 1) G6.out.r0 rfl
  have f0 := box_free G6.out.r0 1
  have G7 := hid (G6.out.put1 (.int .i64 (N : Int)))
  go_upto_region 5 with fail
  generalize w6.setCell ⟨w.heap.size, 1, none⟩ (.int .i64 (N : Int)) = w7 at *
  clear c0 f0 G6
  go_wp2_with fail
  refine (m3.out _ _ _ _ G7.out).mono ?_
  rintro e w8 ⟨hs8, v8, rfl, ⟨rfl, _⟩, ha8⟩
  have G8 := hid (G7.out.saved hs8 ha8.row)
  rw [← hp3.out] at G8
  clear G7 hs8 ha8 m1 m2 m3
  have hB8 : w.heap.size + 3 ≤ w8.heap.size := lt_of_block G8.out.rg
  replace hB8 := hid hB8
  have c2 := box_at (j := 2) G8.out.r0 rfl
  have f2 := box_free G8.out.r0 2
  go_upto_region 6 with fail
  go_wp2_with (at_make; refine wpList_make_own _ rfl _ _ 22 rfl (w.heap.size + 3) 25 i0 _ 5 Tryd.underlying22 hi hz0 hz1 .i64 .i64 _ ds.length rfl rfl rfl (by rw [hz2]; omega) (by unfold maxLen; omega) hB8.out ?_; intro w9 hown9 hg9; have G9 := hid (G8.out.later (grown_below hg9)); replace hown9 := hid hown9; clear c2 f2; have c2 := box_at (j := 2) G9.out.r0 rfl; have f2 := box_free G9.out.r0 2)
  have G10 := hid (G9.out.put2 (.slice (some ⟨w8.heap.size, 0, none⟩) 0 ds.length))
  have hown10 : Hid (OwnG Rd 5 (w.heap.size + 3) (w.heap.size + 3) 25 (w9.setCell ⟨w.heap.size, 2, none⟩ (.slice (some ⟨w8.heap.size, 0, none⟩) 0 ds.length)) [] (.slice (some ⟨w8.heap.size, 0, none⟩) 0 ds.length)) :=
    (OwnG.empty hown9.out).box valRel ⟨w.heap.size, 2, none⟩ _ (fun e => by have := hB8.out; simp [Value.ownBlock] at e; omega) (by show w.heap.size < _; omega)
  clear G8 hown9 c2 f2 G9
  go_loopg [6, 7, 8, 25] ds.length (fun g s6 s7 s8 s25 wr => ∃ (j : Nat) (v : Value), g + j = ds.length ∧ s25 = .int .i64 j ∧ GR w (.int .i64 (E : Int)) (.int .i64 (N : Int)) v (.slice a l.length cap) ((p3 + (encL (ds.take j)).length : Nat) : Int) wr ∧ OwnG Rd 5 (w.heap.size + 3) (w.heap.size + 3) 25 wr (ds.take j) v)
  case atStart => exact ⟨0, _, by omega, rfl, by simpa [encL] using G10.out, hown10.out⟩
  case round =>
    clear G10 hown10
    obtain ⟨j, v, hj, rfl, G, hown⟩ := hrel
    by_cases hlt : j < ds.length
    · obtain ⟨x, hx⟩ : ∃ x, ds[j]? = some x := ⟨_, List.getElem?_eq_getElem hlt⟩
      obtain ⟨ht1, ht2, ht3⟩ := hta.out j x hx
      obtain ⟨q, hq⟩ : ∃ q, q = p3 + (encL (ds.take j)).length := ⟨_, rfl⟩
      rw [← hq] at ht1 ht2 G
      have hqn : p3 + (encL (ds.take (j + 1))).length = q + x.enc.length := by rw [ht3, List.length_append]; omega
      have hlj : (ds.take j).length = j := by rw [List.length_take]; omega
      have htk := hid (take_calls (hb0.out.later G.low) (hT.out _ G.low) hl (q : Int) (by unfold I64; omega))
      rw [ht1] at htk
      have hlow := hid G.low
      have hownlt := hid (hown.lt)
      have hsn : ds.take (j + 1) = ds.take j ++ [x] := take_succ_of hx
      have ew : IntKind.i64.wrap ((q : Int) + (x.enc.length : Int)) = (q : Int) + (x.enc.length : Int) := by rw [IntWalk.i64_in _ (by omega)]
      replace hsn := hid hsn
      replace hqn := hid hqn
      have c1 := box_at (j := 1) G.rg rfl
      have hBr : w.heap.size + 3 ≤ wr.heap.size := lt_of_block G.rg
      replace G := hid G
      replace hown := hid hown
      clear ht1 ht2 ht3 hq
      go_wp2_with fail
      clear c1
      refine htk.out.mono ?_
      rintro e w5 ⟨h5, cs5, rfl, hr5, _⟩
      obtain ⟨xk, xn, xs, xl, xfn, xfv⟩ := x
      obtain ⟨xa, xc, za, zc, rfl, _⟩ := hr5.inv
      go_upto_region 10 with fail
      obtain ⟨w6, hw6⟩ : ∃ w6, w6 = w5.alloc (.cells #[.int .i64 xk, .int .i64 xn, .string xs, .slice xa xl.length xc, .slice za xfv.length zc] 25) := ⟨_, rfl⟩
      have h6 : Below w5.heap.size w5 w6 := by rw [hw6]; exact below_new _ _
      have r6 : Hid (w6.heap[w5.heap.size]? = some (.cells #[.int .i64 xk, .int .i64 xn, .string xs, .slice xa xl.length xc, .slice za xfv.length zc] 25 (0, 0))) := by show _ = _; rw [hw6]; exact heap_alloc_new _ _
      rw [← hw6]
      clear hw6
      have h56 := h5.step h6
      have G6 := hid (G.out.later h56)
      have hown6 := hid (hown.out.later valRel h56)
      have hr6 : Hid (Rd w6 (fun b => wr.heap.size ≤ b ∧ b < w5.heap.size) _ _) := hr5.keep (fun b h => h) (fun b h => h6.block b h.2)
      have hsz5 := hid h5.size
      have hsz6 := hid h6.size
      clear h5 h6 h56 hr5 G hown
      go_wp2_with fail
      refine (hmy.out _ _).mono ?_
      rintro e w7 ⟨rfl, rfl⟩
      have hnB := below_new w6 (.cells #[.int .i64 xk, .int .i64 xn, .string xs, .slice xa xl.length xc, .slice za xfv.length zc] 25)
      have hownB := hid (hown6.out.later valRel hnB)
      have hXB : Hid (Rd (w6.alloc (.cells #[.int .i64 xk, .int .i64 xn, .string xs, .slice xa xl.length xc, .slice za xfv.length zc] 25)) (Apart (w.heap.size + 3) (w6.alloc (.cells #[.int .i64 xk, .int .i64 xn, .string xs, .slice xa xl.length xc, .slice za xfv.length zc] 25)) v) (.mk xk xn xs xl xfn xfv) [.int .i64 xk, .int .i64 xn, .string xs, .slice xa xl.length xc, .slice za xfv.length zc]) :=
        hr6.out.keep (fun b h => ⟨by have := h.1; omega, by have := h.2; have := hsz6.out; simp; omega, fun e => by have := (hownlt.out b e).2; have := h.1; omega⟩) (fun b h => hnB.block b (by have := h.2; have := hsz6.out; omega))
      have GB := hid (G6.out.later hnB)
      have hszB : Hid (w.heap.size + 3 ≤ (w6.alloc (.cells #[.int .i64 xk, .int .i64 xn, .string xs, .slice xa xl.length xc, .slice za xfv.length zc] 25)).heap.size) := by show _ ≤ _; have := hsz5.out; have := hsz6.out; simp; omega
      have d0 := box_at (j := 0) G6.out.r0 rfl
      have d1 := box_at (j := 1) G6.out.r0 rfl
      have d2 := box_at (j := 2) G6.out.r0 rfl
      have a0 := box_at (j := 0) r6.out rfl
      have a1 := box_at (j := 1) r6.out rfl
      have a2 := box_at (j := 2) r6.out rfl
      have a3 := box_at (j := 3) r6.out rfl
      have a4 := box_at (j := 4) r6.out rfl
      clear hnB
      go_wp2_with (at_builtin; (refine wpList_append_g valRel _ rfl (.tmp 43) (.tmp 45) 22 rfl (w.heap.size + 3) (w.heap.size + 3) 25 80 i0 _ Tryd.underlying22 hi hz0 hz1 hz2 rfl (by decide) (ds.take j) v rfl hownB.out ⟨w6.heap.size, 0, none⟩ 1 [.int .i64 xk, .int .i64 xn, .string xs, .slice xa xl.length xc, .slice za xfv.length zc] (.mk xk xn xs xl xfn xfv) rfl (cells_new _ _ rfl _ _) hXB.out (by rw [hlj]; omega) (by rw [hlj]; unfold maxLen; omega) hszB.out ?_)
                   intro v8 w8 hown8 hg8 hlow8 _
                   rw [← hsn.out] at hown8
                   obtain ⟨a8, m8, n8, rfl⟩ := own_slice hown8
                   have G8 := hid (GB.out.grow hg8 (fun k hk => (hownlt.out k hk).1))
                   have hne8 : Hid (∀ b, b < w.heap.size + 3 → (Value.slice a8 m8 n8).ownBlock ≠ some b) := fun b hb e => by
                     rcases hlow8 b e with h | h
                     · have := (hownlt.out b h).1; omega
                     · have := hszB.out; omega
                   replace hown8 := hid hown8
                   clear d0 d1 d2 a0 a1 a2 a3 a4 hg8 hlow8
                   have c2 := box_at (j := 2) G8.out.r0 rfl
                   have f2 := box_free G8.out.r0 2
                   have c3 := box_at (j := 1) G8.out.rg rfl
                   have f3 := box_free G8.out.rg 1)
      have Gn := hid ((G8.out.put2 (.slice a8 m8 n8)).move ((q : Int) + (Go.Proofs.YtihcegakghmdfaaDoor.PVal.enc (.mk xk xn xs xl xfn xfv)).length))
      have hownn := hid ((hown8.out.box valRel ⟨w.heap.size, 2, none⟩ (.slice a8 m8 n8) (hne8.out _ (by simp)) (by simp)).box valRel ⟨w.heap.size + 1 + 1, 1, none⟩ (.int .i64 ((q : Int) + (Go.Proofs.YtihcegakghmdfaaDoor.PVal.enc (.mk xk xn xs xl xfn xfv)).length)) (hne8.out _ (by simp)) (by simp))
      go_roundg (ds.length - (j + 1))
      case measure => omega
      case rel => exact ⟨j + 1, .slice a8 m8 n8, by omega, by go_num, by rw [hqn.out]; exact Gn.out, hownn.out⟩
    · have hj2 : ds.take j = ds := List.take_of_length_le (by omega)
      rw [hj2, ← hlL.out] at G
      rw [hj2] at hown
      obtain ⟨a8, m8, n8, hv8⟩ := own_slice hown
      obtain ⟨c8, n9, hv9, _⟩ := hown.form
      subst hv9
      clear hv8
      have c1 := box_at (j := 1) G.rg rfl
      replace G := hid G
      replace hown := hid hown
      go_wp2_with fail
      refine (hmy.out _ _).mono ?_
      rintro e w6 ⟨rfl, rfl⟩
      clear c1
      have d0 := box_at (j := 0) G.out.r0 rfl
      have d1 := box_at (j := 1) G.out.r0 rfl
      have d2 := box_at (j := 2) G.out.r0 rfl
      have d3 := box_at (j := 0) G.out.r1 rfl
      have f0 := box_free G.out.r0 0
      have f1 := box_free G.out.r0 1
      have f2 := box_free G.out.r0 2
      have f3 := box_free G.out.r1 0
      have Gz := hid (((G.out.put0 (.int .i64 (E : Int))).put1 (.int .i64 (N : Int))).put2 (.slice c8 ds.length n9))
      have hz := hid (((hown.out.box valRel ⟨w.heap.size, 0, none⟩ (.int .i64 (E : Int)) (fun e => by have := (hown.out.lt _ e).1; simp at this; omega) (by simp)).box valRel ⟨w.heap.size, 1, none⟩ (.int .i64 (N : Int)) (fun e => by have := (hown.out.lt _ e).1; simp at this; omega) (by simp)).box valRel ⟨w.heap.size, 2, none⟩ (.slice c8 ds.length n9) (fun e => by have := (hown.out.lt _ e).1; simp at this; omega) (by simp))
      go_wp2_with fail
      have r0z := hid ((Below.heap_setCell (((wr.setCell ⟨w.heap.size, 0, none⟩ (.int .i64 (E : Int))).setCell ⟨w.heap.size, 1, none⟩ (.int .i64 (N : Int))).setCell ⟨w.heap.size, 2, none⟩ (.slice c8 ds.length n9)) ⟨w.heap.size + 1, 0, none⟩ (.int .i64 0) w.heap.size (by simp)).trans Gz.out.r0)
      have r1z := hid (row_setCell (j := 0) (u := .int .i64 0) Gz.out.r1)
      have hbz := hid (Gz.out.low.setCell (p := ⟨w.heap.size + 1, 0, none⟩) (by simp) (.int .i64 0))
      have hoz := hid (hz.out.box valRel ⟨w.heap.size + 1, 0, none⟩ (.int .i64 0) (fun e => by have h2 : w.heap.size + 3 ≤ w.heap.size + 1 := (hown.out.lt _ e).1; omega) (by simp))
      clear Gz hz d0 d1 d2 d3 f0 f1 f2 f3
      generalize ((((wr.setCell ⟨w.heap.size, 0, none⟩ (.int .i64 (E : Int))).setCell ⟨w.heap.size, 1, none⟩ (.int .i64 (N : Int))).setCell ⟨w.heap.size, 2, none⟩ (.slice c8 ds.length n9)).setCell ⟨w.heap.size + 1, 0, none⟩ (.int .i64 0)) = wz at *
      refine leaves_cons (f := 92) (args := #[.pointer (some ⟨w.heap.size, 0, none⟩), .pointer (some ⟨w.heap.size + 1, 0, none⟩)]) (by simp) (by simp [go_sem]) ?_
      refine (reply_idle _ _ wz).mono ?_
      rintro e u' w10 ⟨rfl, rfl, rfl⟩
      have z0 := box_at (j := 0) r0z.out rfl
      have z1 := box_at (j := 1) r0z.out rfl
      have z2 := box_at (j := 2) r0z.out rfl
      have z3 := box_at (j := 0) r1z.out rfl
      simp [Leaves, settle, results, Tryd.results56, go_sem, z0, z1, z2, z3]
      refine ⟨c8, n9, ⟨rfl, rfl⟩, hbz.out, hoz.out.readL (fun b hb => (hoz.out.lt b hb).2) (fun b hb => hb.2.1) (by omega)⟩
end Go.Proofs.YtihcegakghmdfaaDoor

namespace Go.Proofs.YtihcegakghmdfaaDoor
open Go.RowKit Go.Proofs

set_option maxRecDepth 100000 in
set_option maxHeartbeats 1000000 in
theorem reply_caught (B : Nat) (c : Int) (older : List PanicEntry) (w : World) (v0 v1 v2 y : Value) (r0 : w.heap[B]? = some (.cells #[v0, v1, v2] 82 (0, 0))) (r1 : w.heap[B + 1]? = some (.cells #[y] 28 (0, 0))) :
    CallsD Tryd.prog 92 #[.pointer (some ⟨B, 0, none⟩), .pointer (some ⟨B + 1, 0, none⟩)] (.panicking ({ v := .iface 28 (.int .i64 c), recovered := false } :: older)) w fun e u' w' =>
      e = .returned (.tuple #[]) ∧ u' = .panicking ({ v := .iface 28 (.int .i64 c), recovered := true } :: older) ∧ Below B w w' ∧ w'.heap[B]? = some (.cells #[.int .i64 0, .int .i64 0, .slice none 0 0] 82 (0, 0)) ∧ w'.heap[B + 1]? = some (.cells #[.int .i64 c] 28 (0, 0)) := by
  have c00 := box_at (j := 0) r0 rfl
  have c01 := box_at (j := 1) r0 rfl
  have c02 := box_at (j := 2) r0 rfl
  have c1 := box_at (j := 0) r1 rfl
  have f0 := box_free r0
  have f1 := box_free r1 0
  have hca := hid caught_calls
  refine callsD_of_wpS Tryd.func92 rfl fun c₀ cs hu => ?_
  apply wpS_seq
  apply wpS_region
  simp [wpOpsS, go_sem, recoverD, hu, Tryd.ntmps92, Exit.thenS]
  refine wpS_of_wp ?_
  go_wp2_with fail
  refine (hca.out _ _).mono ?_
  rintro e w1 ⟨rfl, rfl⟩
  go_wp2_with fail
  have hB : Below B w ((((w.setCell ⟨B, 0, none⟩ (.int .i64 0)).setCell ⟨B, 1, none⟩ (.int .i64 0)).setCell ⟨B, 2, none⟩ (.slice none 0 0)).setCell ⟨B + 1, 0, none⟩ (.int .i64 c)) :=
    ((((Below.refl B w).setCell (p := ⟨B, 0, none⟩) (by simp) _).setCell (p := ⟨B, 1, none⟩) (by simp) _).setCell (p := ⟨B, 2, none⟩) (by simp) _).setCell (p := ⟨B + 1, 0, none⟩) (by simp) _
  have h0 : ((((w.setCell ⟨B, 0, none⟩ (.int .i64 0)).setCell ⟨B, 1, none⟩ (.int .i64 0)).setCell ⟨B, 2, none⟩ (.slice none 0 0)).setCell ⟨B + 1, 0, none⟩ (.int .i64 c)).heap[B]? = some (.cells #[.int .i64 0, .int .i64 0, .slice none 0 0] 82 (0, 0)) := by
    rw [Below.heap_setCell _ _ _ _ (by simp)]
    exact row_setCell (row_setCell (row_setCell r0))
  have h1 : ((((w.setCell ⟨B, 0, none⟩ (.int .i64 0)).setCell ⟨B, 1, none⟩ (.int .i64 0)).setCell ⟨B, 2, none⟩ (.slice none 0 0)).setCell ⟨B + 1, 0, none⟩ (.int .i64 c)).heap[B + 1]? = some (.cells #[.int .i64 c] 28 (0, 0)) := by
    refine (row_setCell (cs := #[y]) (t := 28) ?_ : _)
    rw [Below.heap_setCell _ _ _ _ (by simp), Below.heap_setCell _ _ _ _ (by simp), Below.heap_setCell _ _ _ _ (by simp)]
    exact r1
  cases c₀
  simp only at hu
  subst hu
  simp [bodyPostS, results, Tryd.results92]
  exact ⟨hB, h0, h1⟩

set_option maxRecDepth 100000 in
set_option maxHeartbeats 4000000 in
theorem getReply_short {w : World} {bv : Value} (hb : BytesAt w (Now w) [0] bv) :
    Calls Tryd.prog 56 #[bv] w fun e w' => e = .returned (.tuple #[.agg #[.int .i64 0, .int .i64 0, .slice none 0 0], .int .i64 17]) ∧ Below w.heap.size w w' := by
  have hmf : ∀ (fn : Fn) (first cap : Array Value) (w : World), (Instr.makeFunc fn first cap).run Tryd.prog w = .ok (.func fn first cap) w := fun _ _ _ _ => rfl
  have hb0 := hid hb
  obtain ⟨a, cap, rfl, hc1, hc2, _⟩ := hb
  obtain ⟨l, hl0⟩ : ∃ l : List UInt8, l = [0] := ⟨_, rfl⟩
  rw [← hl0] at hb0 hc1 ⊢
  have hll : l.length = 1 := by rw [hl0]; rfl
  have m1 := hid (fun (w' : World) (v0 v1 v2 : Value) (h : GR w v0 v1 v2 (.slice a l.length cap) ((0 : Nat) : Int) w') => many_calls 255 4 (by omega) (h.at_ hb0.out (by omega) (by omega)))
  rw [show manyR 255 4 (l.drop 0) = .ok 0 1 by rw [hl0]; rfl] at m1
  have m2 := hid (fun (w' : World) (v0 v1 v2 : Value) (h : GR w v0 v1 v2 (.slice a l.length cap) ((1 : Nat) : Int) w') => many_calls 2147483647 4 (by omega) (h.at_ hb0.out (by omega) (by omega)))
  rw [show manyR 2147483647 4 (l.drop 1) = .bad 17 by rw [hl0]; rfl] at m2
  clear hl0
  obtain ⟨W3, hW3⟩ : ∃ W3, W3 = ((w.alloc (.cells #[.int .i64 0, .int .i64 0, .slice none 0 0] 82)).alloc (.cells #[.int .i64 0] 28)).alloc (.cells #[.slice a l.length cap, .int .i64 0] 101) := ⟨_, rfl⟩
  have G3 : Hid (GR w (.int .i64 0) (.int .i64 0) (.slice none 0 0) (.slice a l.length cap) ((0 : Nat) : Int) W3) := by
    show GR _ _ _ _ _ _ _
    rw [hW3]
    exact ⟨al_old (al_old (al_at rfl)), al_old (al_at (by simp)), al_at (by simp), ((below_new _ _).step (below_new _ _)).step (below_new _ _)⟩
  replace hll := hid hll
  go_enter_defers Tryd.func56, Tryd.ntmps56
  go_wp2_with fail
  rw [← hW3]
  clear hW3
  refine (m1.out _ _ _ _ G3.out).mono ?_
  rintro e w4 ⟨hs4, v4, rfl, ⟨rfl, _⟩, ha4⟩
  have G4 := hid (G3.out.saved hs4 ha4.row)
  rw [Nat.zero_add] at G4
  clear G3 hs4 ha4
  have c0 := box_at (j := 0) G4.out.r0 rfl
  have f0 := box_free G4.out.r0 0
  have G5 := hid (G4.out.put0 (.int .i64 ((0 : Nat) : Int)))
  go_upto_region 4 with fail
  rw [show (.int .i64 0 : Value) = .int .i64 ((0 : Nat) : Int) from rfl]
  generalize w4.setCell ⟨w.heap.size, 0, none⟩ (.int .i64 ((0 : Nat) : Int)) = w5 at *
  clear c0 f0 G4
  go_wp2_with fail
  refine (m2.out _ _ _ _ G5.out).mono ?_
  rintro e w6 ⟨hs6, rfl⟩
  have hs := hs6.below (B := w.heap.size) (by omega) (lt_of_block G5.out.rg)
  have r0 := (hs6.block _ (lt_of_block G5.out.r0) (by omega)).trans G5.out.r0
  have r1 := (hs6.block _ (lt_of_block G5.out.r1) (by omega)).trans G5.out.r1
  have hb6 := hid (G5.out.low.trans hs)
  replace r0 := hid r0
  replace r1 := hid r1
  clear hs6 hs
  go_wp2_with fail
  refine leaves_cons (f := 92) (args := #[.pointer (some ⟨w.heap.size, 0, none⟩), .pointer (some ⟨w.heap.size + 1, 0, none⟩)]) (by simp) (by simp [go_sem]) ?_
  refine (reply_caught w.heap.size 17 [] w6 _ _ _ _ r0.out r1.out).mono ?_
  rintro e u' w7 ⟨rfl, rfl, hb7, h0, h1⟩
  have z0 := box_at (j := 0) h0 rfl
  have z1 := box_at (j := 1) h0 rfl
  have z2 := box_at (j := 2) h0 rfl
  have z3 := box_at (j := 0) h1 rfl
  simp [Leaves, settle, results, Tryd.results56, go_sem, z0, z1, z2, z3]
  exact hb6.out.trans hb7

set_option maxRecDepth 100000 in
theorem fails_calls (c : Int) {l : List UInt8} (hR : getR l = .bad c) {w : World} {bv : Value} (hb : BytesAt w (Now w) l bv) (hT : Tabs w) (hl : l.length ≤ 140737488355328) :
    Calls Tryd.prog 58 #[.int .i64 c, bv] w fun e w' => e = .returned (.bool true) ∧ Below w.heap.size w w' := by
  have hgt := hid ((get_calls hb hT hl).mono fun e w2 h => gotV_case h)
  rw [hR] at hgt
  have hzr := hid (fun w cs h => zero_calls zeroV true (by simp) w cs h)
  unfold Got.err at hgt
  clear hR hb
  go_enter Tryd.func58, Tryd.ntmps58
  go_wp2_with fail
  refine hgt.out.mono ?_
  rintro e w1 ⟨cs, rfl, h1, hr⟩
  replace hr : Rd w1 (Now w1) zeroV cs := hr.keep (fun b hb => hb.2) (fun _ _ => rfl)
  have hi := hr
  unfold zeroV at hi
  obtain ⟨xa, xc, za, zc, rfl, _⟩ := hi.inv
  clear hi
  have hn := hid (below_new w1 (.cells #[.int .i64 0, .int .i64 0, .string ByteArray.empty, .slice xa 0 xc, .slice za 0 zc] 25))
  replace hr := hid (hr.later hn.out)
  go_wp2_with fail
  refine (hzr.out _ _ hr.out).mono ?_
  rintro e w2 ⟨rfl, h2⟩
  go_wp2_with fail
  go_ret
  exact ⟨rfl, h1.step (hn.out.step h2)⟩
end Go.Proofs.YtihcegakghmdfaaDoor
