/-
  append of bytes that came in (nil or not) to a row of the call's own; what such a row reads as. No condition.
  Walks: the reference's Zero; awake of the codec's statements.
  Walk: the law CodecNumbers.
  What Get and Take tell, with no case: the value (or none), the number behind, the error. What is written is read; nothing shorter, nothing longer. No condition.
  Walk: the law CodecBack.
-/
import Derived.Test.YtihcegakghmdfaaDoorMgBuf
import Derived.Test.YtihcegakghmdfaaDoorMgRef1
import Derived.Laws.AppendOwnNone
import Derived.Laws.OwnMore
import Derived.Test.YtihcegakghmdfaaDoorMgDecP
import Derived.Test.YtihcegakghmdfaaDoorMgEnc1
import Derived.Test.YtihcegakghmdfaaDoorMgVal19
import Derived.Deep.RegionLaw
import Derived.Test.YtihcegakghmdfaaDoorMgLaid
import Derived.Test.YtihcegakghmdfaaDoorMgRef6
import Derived.Test.YtihcegakghmdfaaDoorMgVal21
namespace Go.Proofs.YtihcegakghmdfaaDoor
open Go.RowKit Go.Proofs

/-- append of a slice, nil or not, to a slice that the call owns. -/
theorem wpList_append_own_any {P : Program} (w : World) {ops : Array Oper} {rest : List Oper} {o : Oper} {a : Act} {Q : Exit → Act → World → Prop} (hgd : o.guard = none) (s x : Operand) (t : TypeId)
    (ho : o.op = .call { callee := .builtin .append, args := #[s, x], argTypes := #[t, t] })
    (base : Nat) (e : TypeId) (i : TypeInfo) (z : Value) (size bytes : Nat) (ht : P.underlying t = some (.slice e)) (hi : P.info? e = some i) (hz : i.zero = some z)
    (hsize : i.size = size) (hby : i.bytes = bytes) (hzs : z.cells.size = size) (hsz : 0 < size)
    (v : Value) (n : Nat) (xs : List Value) (hs : a.eval s = v) (hown : w.ownsRow base e size v n xs)
    (ao : Option Addr) (m c : Nat) (news : List Value) (hx : a.eval x = .slice ao m c) (hl : news.length = m * size) (hnone : ao = none → m = 0 ∧ c = 0) (hnews : ∀ ad, ao = some ad → ∀ j u, news[j]? = some u → w.cell? (ad.add j) = some u) (h1 : ∀ u ∈ news, u.oneCell' = true)
    (h63 : n + m ≤ maxLen) (hbytes : (n + m) * bytes ≤ 140737488355328) (hbase : base ≤ w.heap.size)
    (h : ∀ v' w', w'.ownsRow base e size v' (n + m) (xs ++ news) → w.grownBy w' v.ownBlock → wpList P ops Q rest (a.put o.dst v') w') : wpList P ops Q (o :: rest) a w := by
  cases ao with
  | none =>
    obtain ⟨rfl, rfl⟩ := hnone rfl
    obtain rfl : news = [] := List.eq_nil_of_length_eq_zero (by simpa using hl)
    refine wpList_append_own_none hgd s x t ho base e i size ht hi v n xs hs hown hx ?_
    exact h v w (by simpa using hown) ⟨rfl, rfl, rfl, Nat.le_refl _, fun _ _ _ => rfl⟩
  | some ad => exact wpList_append_own w hgd s x t ho base e i z size bytes ht hi hz hsize hby hzs hsz v n xs hs hown ad m c news hx hl (hnews ad rfl) h1 h63 hbytes hbase fun v' w' h2 h3 _ => h v' w' h2 h3
theorem addr_at (b off n : Nat) : (⟨b, off, none⟩ : Addr).add n = ⟨b, off + n, none⟩ := by
  unfold Addr.add
  split
  · rename_i h; rw [h]; rfl
  · rfl
theorem own_cap {w : World} {B e g n cap k : Nat} {xs : List Value} (h : w.ownsRow B e 1 (.slice (some ⟨g, 0, none⟩) n cap) k xs) : n ≤ cap ∧ cap ≤ 9223372036854775807 := by
  rcases h.2 with ⟨h1, _⟩ | ⟨g', cap', cur, hv, _, _, hc, hm, _⟩
  · cases h1
  · injection hv with _ e2 e3
    subst e2 e3
    exact ⟨hc, by unfold maxLen at hm; omega⟩
/-- The first bytes of a row of the call's own. -/
theorem own_bytes {w : World} {B e g n cap m : Nat} {l : List UInt8} (h : w.ownsRow B e 1 (.slice (some ⟨g, 0, none⟩) n cap) n (bcells l)) (hm : m ≤ l.length) (hn : n = l.length) : BytesAt w (Now w) (l.take m) (.slice (some ⟨g, 0, none⟩) m cap) := by
  have hc := own_cap h
  have hl : (l.take m).length = m := by rw [List.length_take]; omega
  refine ⟨_, _, by rw [hl], by rw [hl]; omega, hc.2, .inr ⟨g, 0, rfl, (h.lt g rfl).2, fun j x hx => ?_⟩⟩
  have hj : j < m := by rw [← hl]; exact (List.getElem?_eq_some_iff.1 hx).1
  have h1 := h.cellAt j (by omega)
  rw [List.getElem?_take, if_pos hj] at hx
  rw [Nat.zero_add, h1]
  simp [bcells, hx]
theorem bytes_pre {w : World} {S : Nat → Prop} {l : List UInt8} {a : Option Addr} {n cap m : Nat} (h : BytesAt w S l (.slice a n cap)) (hm : m ≤ l.length) : BytesAt w S (l.take m) (.slice a m cap) := by
  obtain ⟨a', cap', e, h1, h2, h3⟩ := h
  injection e with e1 e2 e3
  subst e1 e3
  have hl : (l.take m).length = m := by rw [List.length_take]; omega
  refine ⟨_, _, by rw [hl], by rw [hl]; omega, h2, ?_⟩
  rcases h3 with h0 | ⟨b, off, h4, h5, h6⟩
  · subst h0; simp
  · refine .inr ⟨b, off, h4, h5, fun j c hj => ?_⟩
    have hjm : j < m := by rw [← hl]; exact (List.getElem?_eq_some_iff.1 hj).1
    rw [List.getElem?_take, if_pos hjm] at hj
    exact h6 j c hj
end Go.Proofs.YtihcegakghmdfaaDoor

namespace Go.Proofs.YtihcegakghmdfaaDoor
open Go.RowKit Go.Proofs

/-- The value of none. -/
def zeroV : PVal := .mk 0 0 ByteArray.empty [] [] []
theorem rd_zero {w : World} {S : Nat → Prop} : Rd w S zeroV [.int .i64 0, .int .i64 0, .string ByteArray.empty, .slice none 0 0, .slice none 0 0] := rd_atom ⟨by decide, by decide⟩ ⟨by decide, by decide⟩ (by decide)

set_option maxRecDepth 100000 in
theorem zero_calls (V : PVal) (R : Bool) (hR : R = true ↔ V = zeroV) (w : World) (cs : List Value) (hV : Rd w (Now w) V cs) :
    Calls Tryd.prog 24 #[.agg cs.toArray] w fun e w' => e = .returned (.bool R) ∧ Below w.heap.size w w' := by
  have hs := hid (fun w cs cs' => same_calls V zeroV R hR w cs cs')
  have hV0 := hid hV
  clear hR
  obtain ⟨k, n, s, l, fn, fv⟩ := V
  obtain ⟨la, lc, fa, fc, rfl, _⟩ := hV.inv
  clear hV
  have hB0 := hid (below_new w (.cells #[.int .i64 k, .int .i64 n, .string s, .slice la l.length lc, .slice fa fv.length fc] 25))
  go_enter Tryd.func24, Tryd.ntmps24
  go_wp2_with fail
  refine (hs.out _ _ _ (hV0.out.later hB0.out) rd_zero).mono ?_
  rintro e w1 ⟨rfl, h1⟩
  go_wp2_with fail
  go_ret
  exact ⟨rfl, hB0.out.step h1⟩

/-- Bytes that were just laid. -/
theorem bytes_new {w : World} {cs : Array Value} {t : TypeId} (l : List UInt8) (hc : cs = (bcells l).toArray) (hl : l.length ≤ 9223372036854775807) : BytesAt (w.alloc (.cells cs t)) (Now (w.alloc (.cells cs t))) l (.slice (some ⟨w.heap.size, 0, none⟩) l.length l.length) := by
  refine ⟨_, _, rfl, Nat.le_refl _, hl, .inr ⟨w.heap.size, 0, rfl, by show _ < _; simp, fun j c hj => ?_⟩⟩
  have := src_new (w := w) l t hc rfl j (.int .u8 c.toNat) (by simp [bcells, hj])
  rwa [show (⟨w.heap.size, 0, none⟩ : Addr).add j = ⟨w.heap.size, 0 + j, none⟩ by rw [Addr.add]; split <;> simp_all] at this

/-- The number -1. -/
def minusV : PVal := .mk 3 (-1) ByteArray.empty [] [] []
theorem rd_minus {w : World} {S : Nat → Prop} : Rd w S minusV [.int .i64 3, .int .i64 (-1), .string ByteArray.empty, .slice none 0 0, .slice none 0 0] := rd_atom ⟨by decide, by decide⟩ ⟨by decide, by decide⟩ (by decide)
theorem minus_good : minusV.good = 0 := by decide +kernel
theorem minus_enc : minusV.enc = [3, 1] := by decide +kernel
theorem minus_get : getR [3, 1] = .ok minusV 2 := by rfl

set_option maxRecDepth 100000 in
set_option maxHeartbeats 1000000 in
theorem awake3_calls (w : World) (hT : Tabs w) : Calls Tryd.prog 30 #[] w fun e w' => e = .returned (.bool true) ∧ Below w.heap.size w w' := by
  have hi := hid (fun w => int_calls (-1) w)
  have hT := hid (fun w' hb => Tabs.stays w w' hT hb)
  have hp := hid (fun w' (hb : Below w.heap.size w w') => put_calls minusV w' _ (by decide +kernel) (hT.out _ hb) rd_minus (by rw [minus_enc]; decide))
  unfold Written at hp
  rw [minus_good, minus_enc] at hp
  simp only [if_true] at hp
  have hs := hid (fun w cs cs' => same3_calls minusV minusV true (by simp) w cs cs')
  go_enter Tryd.func30, Tryd.ntmps30
  go_wp2_with fail
  refine (hi.out _).mono ?_
  rintro e w1 ⟨rfl, h1⟩
  go_wp2_with fail
  refine (hp.out _ h1).mono ?_
  rintro e w2 ⟨v, rfl, hb2⟩
  have B2 := hid (h1.step hb2.below)
  have hg := hid (get_calls (w := w2.alloc (.cells #[.int .u8 3, .int .u8 1] 5)) (bytes_new [3, 1] rfl (by decide)) (hT.out _ (B2.out.step (below_new _ _))) (by decide))
  rw [minus_get] at hg
  replace hb2 := hid hb2
  clear h1
  go_wp2_with fail
  refine hg.out.mono ?_
  rintro e w4 ⟨h4, cs4, rfl, hr4⟩
  obtain ⟨ka, kc, kf, kg, rfl, _⟩ := hr4.inv
  have B4 := hid (B2.out.step ((below_new w2 _).step h4))
  have hb4 := hid (hb2.out.later ((below_new w2 _).step h4))
  have hr5 : Hid (Rd w4 (Now w4) minusV [.int .i64 3, .int .i64 (-1), .string ByteArray.empty, .slice ka 0 kc, .slice kf 0 kg]) := hr4.keep (fun b hb => hb.2) (fun _ _ => rfl)
  clear hr4 h4
  go_upto_region 3 with fail
  obtain ⟨w5, hw5⟩ : ∃ w5, w5 = w4.alloc (.cells #[.int .i64 3, .int .i64 (-1), .string ByteArray.empty, .slice ka 0 kc, .slice kf 0 kg] 25) := ⟨_, rfl⟩
  have hn5 : Hid (Below w4.heap.size w4 w5) := by show Below _ _ _; rw [hw5]; exact below_new _ _
  have r5 : w5.heap[w4.heap.size]? = some (.cells #[.int .i64 3, .int .i64 (-1), .string ByteArray.empty, .slice ka 0 kc, .slice kf 0 kg] 25 (0, 0)) := by rw [hw5]; exact heap_alloc_new _ _
  rw [← hw5]
  clear hw5
  have hcv : ∀ p : Later w5, (convert 26 9 v).run Tryd.prog p.x = .ok (.string ⟨#[3, 1]⟩) p.x := fun p => conv_buf Tryd.underlying26 Tryd.underlying5 Tryd.underlying9 (hb4.out.later (hn5.out.step p.h))
  have qi := hid (fun (p : Later w5) => hi.out p.x)
  have qs := hid (fun (p : Later w5) => hs.out p.x [.int .i64 3, .int .i64 (-1), .string ByteArray.empty, .slice ka 0 kc, .slice kf 0 kg] [.int .i64 3, .int .i64 (-1), .string ByteArray.empty, .slice none 0 0, .slice none 0 0] (hr5.out.later (hn5.out.step p.h)) rd_minus)
  have a0 := Later.cell (box_at (j := 0) r5 rfl)
  have a1 := Later.cell (box_at (j := 1) r5 rfl)
  have a2 := Later.cell (box_at (j := 2) r5 rfl)
  have a3 := Later.cell (box_at (j := 3) r5 rfl)
  have a4 := Later.cell (box_at (j := 4) r5 rfl)
  clear r5
  refine wp_later (by kernel_rfl) (by kernel_rfl) ?_
  repeat (go_big_quiet_step ((first
    | (go_at_call 41; exact later_calls _ (qi.out _))
    | (go_at_call 32; exact later_calls _ (qs.out _)))))
  refine wpQuiet_nil ?_
  rintro _ ⟨q, rfl⟩
  clear hcv a0 a1 a2 a3 a4
  go_wp2_with fail
  go_ret
  exact ⟨rfl, (B4.out.step hn5.out).step q.h⟩
end Go.Proofs.YtihcegakghmdfaaDoor

namespace Go.Proofs.YtihcegakghmdfaaDoor
open Go.RowKit Go.Proofs

theorem numbered_case {R : Got Nat} {z : Int} {w w' : World} {e : Ending} (h : Numbered R z w e w') : Below w.heap.size w w' ∧ ∃ (x : Nat) (y c : Int), e = .returned (.tuple #[.int .u64 x, .int .i64 y, .int .i64 c]) ∧
    (∀ c', R = .bad c' → x = 0 ∧ y = 0 ∧ c = c') ∧ (∀ n k, R = .ok n k → x = n ∧ y = z + (k : Int) ∧ c = 0) := by
  obtain ⟨h1, h2⟩ := h
  refine ⟨h1, ?_⟩
  cases R with
  | bad c => exact ⟨0, 0, c, h2, fun c' h => by injection h with h; exact ⟨rfl, rfl, h⟩, fun _ _ h => by cases h⟩
  | ok n k => exact ⟨n, z + k, 0, h2, (fun c' (h : Got.ok n k = .bad c') => by cases h), (fun n' k' (h : Got.ok n k = .ok n' k') => by injection h with h1 h2; subst h1 h2; exact ⟨rfl, rfl, rfl⟩)⟩

set_option maxRecDepth 100000 in
set_option maxHeartbeats 4000000 in
theorem numbers_calls (n : Nat) (hn : n < 18446744073709551616) (z : Int) (hz : I64 z) {w : World} {bv : Value} {l : List UInt8} (hb : BytesAt w (Now w) l bv) (hl : l.length ≤ 140737488355328) (hT : Tabs w) :
    Calls Tryd.prog 12 #[.int .u64 n, bv, .int .i64 z] w fun e w' => e = .returned (.bool true) ∧ Below w.heap.size w w' := by
  have hnu := hid (enumber_calls hb hl z hz)
  have hb0 := hid hb
  have haw := hid awake3_calls
  have hT := hid (fun w' hb => Tabs.stays w w' hT hb)
  have hva := hid (fun w => evarint_calls n hn w)
  have hvr := hid (fun w => rvarint_calls n hn w)
  have hrn := hid (fun (p : Nat) (hp : p ≤ l.length) (w' : World) (h : Below w.heap.size w w') => rnumber_calls (hb.later h) hl p hp)
  obtain ⟨R, hR⟩ : ∃ R, R = numAt l z := ⟨_, rfl⟩
  rw [← hR] at hnu
  replace hR := hid hR
  obtain ⟨a, cap, rfl, hc1, hc2, hcell⟩ := hb
  clear hcell
  generalize varint n = V at *
  go_enter Tryd.func12, Tryd.ntmps12
  go_wp2_with fail
  refine hnu.out.mono ?_
  intro e w1 hR1
  obtain ⟨h1, x, y, c, rfl, hbad, hok⟩ := numbered_case hR1
  have B1 := hid h1
  replace hbad := hid hbad
  replace hok := hid hok
  clear h1 hR1
  go_upto_region 2 with fail
  go_region_law (first
    | (go_simp; go_at_call 30
       refine (haw.out _ (hT.out _ (B1.out.drew))).mono ?_
       rintro e w2 ⟨rfl, h2⟩
       have B2 := hid (B1.out.step ((Below.refl _ _).drew.trans h2)))
    | (go_simp; go_at_call 52
       refine (hva.out _).mono ?_
       rintro e wa ⟨va, rfl, hba⟩
       have hca := conv_buf (P := Tryd.prog) Tryd.underlying26 Tryd.underlying5 Tryd.underlying9 hba
       have Ba := hid hba.below
       replace hba := hid hba
       try (have hcr' := conv_buf (P := Tryd.prog) Tryd.underlying26 Tryd.underlying5 Tryd.underlying9 (hbr.out.later Ba.out)))
    | (go_simp; go_at_call 53
       refine (hvr.out _).mono ?_
       rintro e wb ⟨vr, rfl, gr, cr, rfl, hbr⟩
       have hcr := conv_buf (P := Tryd.prog) Tryd.underlying26 Tryd.underlying5 Tryd.underlying9 hbr
       have Br := hid hbr.below
       replace hbr := hid hbr
       try (have hca' := conv_buf (P := Tryd.prog) Tryd.underlying26 Tryd.underlying5 Tryd.underlying9 (hba.out.later Br.out))))
  all_goals
    by_cases hneg : z < 0
    · obtain ⟨rfl, rfl, rfl⟩ := hbad.out 1 (by rw [hR.out]; unfold numAt; rw [if_pos (.inl hneg)])
      clear hbad hok
      go_wp2_with fail
      go_ret
      first | exact ⟨rfl, (B2.out.step Ba.out).step Br.out⟩ | exact ⟨rfl, (B2.out.step Br.out).step Ba.out⟩ | exact ⟨by simp, (B2.out.step Ba.out).step Br.out⟩ | exact ⟨by simp, (B2.out.step Br.out).step Ba.out⟩
    by_cases hbig : (l.length : Int) < z
    · obtain ⟨rfl, rfl, rfl⟩ := hbad.out 1 (by rw [hR.out]; unfold numAt; rw [if_pos (.inr hbig)])
      clear hbad hok
      go_wp2_with fail
      go_ret
      first | exact ⟨rfl, (B2.out.step Ba.out).step Br.out⟩ | exact ⟨rfl, (B2.out.step Br.out).step Ba.out⟩ | exact ⟨by simp, (B2.out.step Ba.out).step Br.out⟩ | exact ⟨by simp, (B2.out.step Br.out).step Ba.out⟩
    obtain ⟨p, rfl⟩ := Int.eq_ofNat_of_zero_le (Int.not_lt.1 hneg)
    have hRn : R = numR 0 0 (l.drop p) := by rw [hR.out]; unfold numAt; rw [if_neg (by omega)]; rfl
    have hrn2 := hid (fun w' h => hrn.out p (by omega) w' h)
    rw [← hRn] at hrn2
    clear hRn hR
    cases R with
    | bad c' =>
      obtain ⟨rfl, rfl, rfl⟩ := hbad.out c' rfl
      clear hbad hok
      go_wp2_with fail
      refine (hrn2.out _ (by first | exact (B2.out.step Ba.out).step Br.out | exact (B2.out.step Br.out).step Ba.out)).mono ?_
      rintro e w9 ⟨rfl, rfl⟩
      go_wp2_with fail
      go_ret
      first | exact ⟨rfl, (B2.out.step Ba.out).step Br.out⟩ | exact ⟨rfl, (B2.out.step Br.out).step Ba.out⟩ | exact ⟨by simp, (B2.out.step Ba.out).step Br.out⟩ | exact ⟨by simp, (B2.out.step Br.out).step Ba.out⟩
    | ok nn k =>
      obtain ⟨rfl, rfl, rfl⟩ := hok.out nn k rfl
      clear hbad hok
      go_wp2_with fail
      refine (hrn2.out _ (by first | exact (B2.out.step Ba.out).step Br.out | exact (B2.out.step Br.out).step Ba.out)).mono ?_
      rintro e w9 ⟨rfl, rfl⟩
      go_wp2_with fail
      go_ret
      first | exact ⟨rfl, (B2.out.step Ba.out).step Br.out⟩ | exact ⟨rfl, (B2.out.step Br.out).step Ba.out⟩ | exact ⟨by simp, (B2.out.step Ba.out).step Br.out⟩ | exact ⟨by simp, (B2.out.step Br.out).step Ba.out⟩

theorem nums_bytes {w : World} {rs : List Int} {v : Value} (h : NumsAt .u8 w rs v) : ∃ l : List UInt8, BytesAt w (Now w) l v ∧ l.length = rs.length := by
  obtain ⟨a, cap, rfl, h1, h2, h3, h4⟩ := h
  have hlen : (rs.map fun x => UInt8.ofNat x.toNat).length = rs.length := List.length_map _
  refine ⟨rs.map fun x => UInt8.ofNat x.toNat, ⟨a, cap, by rw [hlen], by rw [hlen]; exact h1, h2, ?_⟩, hlen⟩
  rcases h4 with rfl | ⟨b, off, rfl, hb, hc⟩
  · exact .inl rfl
  · refine .inr ⟨b, off, rfl, hb, fun j c hj => ?_⟩
    rw [List.getElem?_map] at hj
    obtain ⟨x, hx, rfl⟩ := Option.map_eq_some_iff.1 hj
    rw [hc j x hx]
    have := h3 x (List.mem_of_getElem? hx)
    simp only [Lit.wf, Bool.and_eq_true, decide_eq_true_eq] at this
    have h5 : (0 : Int) ≤ x ∧ x ≤ 255 := this
    rw [UInt8.toNat_ofNat']
    congr 2
    omega
theorem numbers_card {w : World} {n z : Int} {bv : Value} {rs : List Int} (hn : (Lit.int .u64 n).wf = true) (hz : (Lit.int .i64 z).wf = true) (hb : NumsAt .u8 w rs bv) (hl : rs.length ≤ 140737488351232) (hT : Tabs w) :
    Calls Tryd.prog 12 #[.int .u64 n, bv, .int .i64 z] w fun e w' => e = .returned (.bool true) ∧ Below w.heap.size w w' := by
  simp only [Lit.wf, Bool.and_eq_true, decide_eq_true_eq] at hn hz
  have hn1 : (0 : Int) ≤ n ∧ n ≤ 18446744073709551615 := hn
  have hz1 : (-9223372036854775808 : Int) ≤ z ∧ z ≤ 9223372036854775807 := hz
  obtain ⟨m, rfl⟩ := Int.eq_ofNat_of_zero_le hn1.1
  obtain ⟨l, h1, h2⟩ := nums_bytes hb
  exact numbers_calls m (by omega) z hz1 h1 (by omega) hT
end Go.Proofs.YtihcegakghmdfaaDoor

namespace Go.Proofs.YtihcegakghmdfaaDoor
open Go.RowKit Go.Proofs

/-- The value that is told: of none if it is refused. -/
def Got.val : Got PVal → PVal
  | .bad _ => zeroV
  | .ok V _ => V
def Got.err : Got PVal → Int
  | .bad c => c
  | .ok _ _ => 0
def Got.next (z : Int) : Got PVal → Int
  | .bad _ => 0
  | .ok _ n => z + (n : Int)

theorem gotV_case {R : Got PVal} {w w' : World} {e : Ending} (h : GotV R w e w') : ∃ cs, e = .returned (.tuple #[.agg cs.toArray, .int .i64 R.err]) ∧ Below w.heap.size w w' ∧ Rd w' (From w.heap.size w') R.val cs := by
  obtain ⟨h1, h2⟩ := h
  cases R with
  | bad c => exact ⟨_, h2, h1, rd_zero⟩
  | ok V n =>
    obtain ⟨cs, rfl, hr⟩ := h2
    exact ⟨cs, rfl, h1, hr⟩
theorem taken_case {R : Got PVal} {z : Int} {w w' : World} {e : Ending} (h : Taken R z w e w') : ∃ cs, e = .returned (.tuple #[.agg cs.toArray, .int .i64 (R.next z), .int .i64 R.err]) ∧ Below w.heap.size w w' ∧ Rd w' (From w.heap.size w') R.val cs := by
  obtain ⟨h1, h2⟩ := h
  cases R with
  | bad c => exact ⟨_, h2, h1, rd_zero⟩
  | ok V n =>
    obtain ⟨cs, rfl, hr, _⟩ := h2
    exact ⟨cs, rfl, h1, hr⟩

theorem takeR_inv {l : List UInt8} {V : PVal} {n : Nat} (h : takeR l = .ok V n) : valR 8 l = .ok V n ∧ n ≤ 2048 := by
  unfold takeR at h
  split at h
  · cases h
  rename_i hv
  split at h
  · cases h
  rename_i hn
  injection h with e1 e2
  subst e1 e2
  exact ⟨hv, by omega⟩
theorem getR_inv {l : List UInt8} {V : PVal} {n : Nat} (h : getR l = .ok V n) : valR 8 l = .ok V n ∧ n ≤ 2048 ∧ l.length ≤ n := by
  unfold getR at h
  split at h
  · cases h
  rename_i hv
  split at h
  · cases h
  rename_i hn
  injection h with e1 e2
  subst e1 e2
  obtain ⟨h1, h2⟩ := takeR_inv hv
  exact ⟨h1, h2, by omega⟩

theorem sound_of {V : PVal} (h : V.good = 0) (hf : V.fits) : V.sound ∧ V.depth ≤ 8 ∧ V.size ≤ 2048 := by
  unfold PVal.good at h
  split at h
  · cases h
  split at h
  · cases h
  split at h
  · cases h
  split at h
  · cases h
  split at h
  · cases h
  rename_i h1 h2 h3 h4 h5
  exact ⟨⟨by simpa using h1, by simpa using h2, by simpa using h3, hf⟩, by omega, by omega⟩
theorem good_of {V : PVal} (h : V.sound) (hd : V.depth ≤ 8) (hz : V.size ≤ 2048) : V.good = 0 := by
  obtain ⟨h1, h2, h3, _⟩ := h
  unfold PVal.good
  rw [if_neg (by simp [h1]), if_neg (by simp [h2]), if_neg (by simp [h3]), if_neg (by omega), if_neg (by omega)]
theorem nodesL_le_size (l : List PVal) (h : ∀ x ∈ l, x.nodes ≤ x.size) : nodesL l ≤ sizeL l := by
  induction l with
  | nil => simp [nodesL, sizeL]
  | cons x r ih =>
    have h1 := h x (by simp)
    have h2 := ih (fun y hy => h y (by simp [hy]))
    simp only [nodesL, sizeL]; omega
theorem nodes_size (V : PVal) : V.sound → V.nodes ≤ V.size := by
  induction V using PVal.ind with
  | h k n s l fn fv hl hf =>
    intro hs
    have h5 := sound_list hs
    have h6 := sound_fields hs
    obtain ⟨h1, _, _, _⟩ := hs
    simp only [PVal.all, Bool.and_eq_true, formedB, decide_eq_true_eq] at h1
    obtain ⟨⟨⟨⟨⟨⟨⟨_, _⟩, _⟩, _⟩, g5⟩, g6⟩, _⟩, _⟩ := h1
    simp only [PVal.nodes, PVal.size]
    by_cases k5 : k = 5
    · subst k5
      have e := nodesL_le_size l (fun x hx => hl x hx (h5 rfl x hx))
      have e2 : fv = [] := List.length_eq_zero_iff.1 (g6 (by omega))
      subst e2
      simp [nodesL]
      omega
    · have e1 : l = [] := List.length_eq_zero_iff.1 (g5 k5)
      subst e1
      by_cases k6 : k = 6
      · subst k6
        have e := nodesL_le_size fv (fun x hx => hf x hx (h6 rfl x hx))
        simp [nodesL]
        omega
      · have e2 : fv = [] := List.length_eq_zero_iff.1 (g6 k6)
        subst e2
        simp [nodesL]
theorem getR_is {l : List UInt8} {V : PVal} {n : Nat} (h : getR l = .ok V n) : V.sound ∧ V.depth ≤ 8 ∧ V.size ≤ 2048 ∧ V.enc = l := by
  obtain ⟨h1, h2, h3⟩ := getR_inv h
  obtain ⟨⟨h4, h5⟩, h6⟩ := val_is 8 _ _ _ h1
  have e := h6.cut
  rw [List.drop_eq_nil_of_le h3, List.append_nil] at e
  refine ⟨h4, h5, ?_, e.symm⟩
  rw [size_enc V h4.2.2.2, ← h6.1]
  exact h2
theorem takeR_enc {V : PVal} (h : V.good = 0) (hf : V.fits) (r : List UInt8) : takeR (V.enc ++ r) = .ok V V.enc.length := by
  obtain ⟨h1, h2, h3⟩ := sound_of h hf
  unfold takeR
  rw [val_enc V 8 r h1 h2 h3]
  simp only
  rw [if_neg (by rw [← size_enc V hf]; omega)]
theorem getR_enc {V : PVal} (h : V.good = 0) (hf : V.fits) : getR V.enc = .ok V V.enc.length := by
  have e := takeR_enc h hf []
  rw [List.append_nil] at e
  unfold getR
  rw [e]
  simp
theorem getR_more {V : PVal} (h : V.good = 0) (hf : V.fits) (x : UInt8) : getR (V.enc ++ [x]) = .bad 4 := by
  unfold getR
  rw [takeR_enc h hf [x]]
  simp
theorem getR_less {V : PVal} (h : V.good = 0) (hf : V.fits) : ∃ c, getR (V.enc.take (V.enc.length - 1)) = .bad c := by
  obtain ⟨h1, h2, h3⟩ := sound_of h hf
  cases hg : getR (V.enc.take (V.enc.length - 1)) with
  | bad c => exact ⟨c, rfl⟩
  | ok V' n =>
    exfalso
    obtain ⟨g1, g2, g3, g4⟩ := getR_is hg
    have e := val_enc V' 8 (V.enc.drop (V.enc.length - 1)) g1 g2 g3
    rw [g4, List.take_append_drop] at e
    have e' := val_enc V 8 [] h1 h2 h3
    rw [List.append_nil, e] at e'
    injection e' with e1 e2
    rw [List.length_take] at e2
    have : V.enc ≠ [] := by cases V; simp [PVal.enc]
    have := List.length_pos_iff.2 this
    omega
end Go.Proofs.YtihcegakghmdfaaDoor

namespace Go.Proofs.YtihcegakghmdfaaDoor
open Go.RowKit Go.Proofs

set_option maxRecDepth 100000 in
/-- The bytes of a slice, turned into a text. -/
theorem conv_all {w : World} {S : Nat → Prop} {l : List UInt8} {a : Option Addr} {cap : Nat} (h : BytesAt w S l (.slice a l.length cap)) :
    (convert 26 9 (.slice a l.length cap)).run Tryd.prog w = .ok (.string ⟨l.toArray⟩) w := by
  have h1 := conv_part (p := 0) (n := l.length) h (by omega)
  rw [List.drop_zero, List.take_length] at h1
  have e : sliced a 0 (0 + l.length) cap 1 = .slice a l.length cap := by
    unfold sliced
    cases a with
    | none => simp
    | some ad => simp [Addr.add]
  rwa [e] at h1

set_option maxRecDepth 100000 in
set_option maxHeartbeats 4000000 in
theorem back_calls (V : PVal) (hm : V.mass ≤ 1073741824) {w : World} {cs : List Value} {bv : Value} {l : List UInt8} (hT : Tabs w) (hV : Rd w (Now w) V cs) (hb : BytesAt w (Now w) l bv) (hl : l.length ≤ 35184372088832) :
    Calls Tryd.prog 6 #[.agg cs.toArray, bv] w fun e w' => e = .returned (.bool true) ∧ Below w.heap.size w w' := by
  have hT := hid (fun w' hb => Tabs.stays w w' hT hb)
  have hV0 := hid hV
  have hb0 := hid hb
  have haw := hid awake3_calls
  have hv := hid (fun la c' w h => vast_calls [V] la c' w h (by simp))
  cases hvb : vast [V] with
  | true =>
    rw [hvb] at hv
    obtain ⟨k, n, s, l, fn, fv⟩ := V
    obtain ⟨la, lc, fa, fc, rfl, _⟩ := hV.inv
    clear hV hvb
    go_enter Tryd.func6, Tryd.ntmps6
    go_wp2_with fail
    refine (haw.out _ (hT.out _ (below_new _ _))).mono ?_
    rintro e w1 ⟨rfl, h1⟩
    have a0 := box_cell (j := 0) h1 rfl
    have a1 := box_cell (j := 1) h1 rfl
    have a2 := box_cell (j := 2) h1 rfl
    have a3 := box_cell (j := 3) h1 rfl
    have a4 := box_cell (j := 4) h1 rfl
    have D := hid ((below_new w (.cells #[.int .i64 k, .int .i64 n, .string s, .slice la l.length lc, .slice fa fv.length fc] 25)).step h1)
    clear h1
    go_wp2_with fail
    refine (hv.out (some ⟨w1.heap.size, 0, none⟩) 1 _ (rdL_block (css := [[.int .i64 k, .int .i64 n, .string s, .slice la l.length lc, .slice fa fv.length fc]]) rfl rfl rfl (one_rd (hV0.out.later (D.out.step (below_new _ _)))) (blk_new (by simp)) (by simp))).mono ?_
    rintro e w2 ⟨rfl, h2⟩
    clear a0 a1 a2 a3 a4
    go_wp2_with fail
    go_ret
    exact ⟨rfl, D.out.step ((below_new _ _).step h2)⟩
  | false =>
    rw [hvb] at hv
    have hnl : ¬ 5000 ≤ nodesL [V] := of_decide_eq_false hvb
    have hN : V.nodes ≤ 20000 := by
      rw [nodesL, nodesL] at hnl
      omega
    have hfit := hV.fits
    have hel := enc_le V hfit
    have gp := hid (fun w cs hT h => put_calls V w cs hN hT h (by omega))
    have gs := hid (fun w cs hT h => size_tells V w cs hN hT h)
    unfold Written at gp
    have gg := hid (fun (w' : World) (h : Below w.heap.size w w') => (get_calls (hb.later h) (hT.out _ h) (by omega)).mono fun e w2 h => gotV_case h)
    have hs3 := hid (fun (V : PVal) w cs cs' => same3_calls V V true (by simp) w cs cs')
    have hzr := hid (fun w cs => zero_calls zeroV true (by simp) w cs)
    have hbk : Hid (((∃ c, c ≠ 0 ∧ getR l = .bad c) ∨ ∃ V' : PVal, ∃ n, getR l = .ok V' n ∧ V'.nodes ≤ 20000 ∧ V'.good = 0 ∧ V'.enc = l)) := by
      show _ ∨ _
      cases hR : getR l with
      | bad c => exact .inl ⟨c, by have := getR_pos hR; omega, rfl⟩
      | ok V' n =>
        obtain ⟨h1, h2, h3, h4⟩ := getR_is hR
        exact .inr ⟨V', n, rfl, by have := nodes_size V' h1; omega, good_of h1 h2 h3, h4⟩
    have hen0 : V.enc ≠ [] := by cases V; simp [PVal.enc]
    obtain ⟨m, hm1⟩ : ∃ m, V.enc.length = m + 1 := ⟨V.enc.length - 1, by have := List.length_pos_iff.2 hen0; omega⟩
    have hsz : V.size = V.enc.length := size_enc V hfit
    have g1 : Hid (V.good = 0 → ∀ (w' : World) (bv : Value), BytesAt w' (Now w') V.enc bv → Tabs w' → Calls Tryd.prog 27 #[bv] w' fun e w2 => ∃ cs, e = .returned (.tuple #[.agg cs.toArray, .int .i64 0]) ∧ Below w'.heap.size w' w2 ∧ Rd w2 (From w'.heap.size w2) V cs) := fun hG w' bv h hT => by
      have := (get_calls h hT (by omega)).mono fun e w2 h => gotV_case h
      rwa [getR_enc hG hfit] at this
    have g2 : Hid (V.good = 0 → ∃ c : Int, c ≠ 0 ∧ ∀ (w' : World) (bv : Value), BytesAt w' (Now w') (V.enc.take m) bv → Tabs w' → Calls Tryd.prog 27 #[bv] w' fun e w2 => ∃ cs, e = .returned (.tuple #[.agg cs.toArray, .int .i64 c]) ∧ Below w'.heap.size w' w2 ∧ Rd w2 (From w'.heap.size w2) zeroV cs) := fun hG => by
      obtain ⟨c, hc⟩ := getR_less hG hfit
      rw [hm1, Nat.add_sub_cancel] at hc
      refine ⟨c, by have := getR_pos hc; omega, fun w' bv h hT => ?_⟩
      have := (get_calls h hT (by rw [List.length_take]; omega)).mono fun e w2 h => gotV_case h
      rwa [hc] at this
    have g3 : Hid (V.good = 0 → ∀ (w' : World) (bv : Value), BytesAt w' (Now w') (V.enc ++ [1]) bv → Tabs w' → Calls Tryd.prog 27 #[bv] w' fun e w2 => ∃ cs, e = .returned (.tuple #[.agg cs.toArray, .int .i64 4]) ∧ Below w'.heap.size w' w2 ∧ Rd w2 (From w'.heap.size w2) zeroV cs) := fun hG w' bv h hT => by
      have := (get_calls h hT (by rw [List.length_append]; simp; omega)).mono fun e w2 h => gotV_case h
      rwa [getR_more hG hfit] at this
    rw [hsz] at gs
    generalize V.good = G at *
    generalize V.enc = en at *
    replace hen0 := hid hen0
    replace hm1 := hid hm1
    have hm2 : Hid (m ≤ 70368744177664) := by show _ ≤ _; have := hm1.out; omega
    clear hel hsz hm hN hnl hvb
    obtain ⟨k, n, s, vl, fn, fv⟩ := V
    obtain ⟨la, lc, fa, fc, rfl, _⟩ := hV.inv
    obtain ⟨ba, bc, rfl, hc1, hc2, _⟩ := hb
    obtain ⟨i0, hi, hz0, hz1, hz2⟩ := info_parts info_u8
    clear hV hfit
    go_enter Tryd.func6, Tryd.ntmps6
    go_wp2_with fail
    refine (haw.out _ (hT.out _ (below_new _ _))).mono ?_
    rintro e w1 ⟨rfl, h1⟩
    have r2 := hid ((h1.block w.heap.size (by simp)).trans (heap_alloc_new w (.cells #[.int .i64 k, .int .i64 n, .string s, .slice la vl.length lc, .slice fa fv.length fc] 25)))
    have D := hid ((below_new w (.cells #[.int .i64 k, .int .i64 n, .string s, .slice la vl.length lc, .slice fa fv.length fc] 25)).step h1)
    have a0 := box_at (j := 0) r2.out rfl
    have a1 := box_at (j := 1) r2.out rfl
    have a2 := box_at (j := 2) r2.out rfl
    have a3 := box_at (j := 3) r2.out rfl
    have a4 := box_at (j := 4) r2.out rfl
    clear h1
    go_wp2_with fail
    refine (hv.out (some ⟨w1.heap.size, 0, none⟩) 1 _ (rdL_block (css := [[.int .i64 k, .int .i64 n, .string s, .slice la vl.length lc, .slice fa fv.length fc]]) rfl rfl rfl (one_rd (hV0.out.later (D.out.step (below_new _ _)))) (blk_new (by simp)) (by simp))).mono ?_
    rintro e w2 ⟨rfl, h2⟩
    replace h2 := (below_new w1 _).step h2
    replace r2 := hid ((h2.block _ (lt_of_block r2.out)).trans r2.out)
    replace D := hid (D.out.step h2)
    clear a0 a1 a2 a3 a4 h2
    have a0 := box_at (j := 0) r2.out rfl
    have a1 := box_at (j := 1) r2.out rfl
    have a2 := box_at (j := 2) r2.out rfl
    have a3 := box_at (j := 3) r2.out rfl
    have a4 := box_at (j := 4) r2.out rfl
    go_wp2_with fail
    refine (gp.out _ _ (hT.out _ D.out) (hV0.out.later D.out)).mono ?_
    rintro e w3 ⟨v3, rfl, hp3⟩
    replace r2 := hid ((hp3.below.block _ (lt_of_block r2.out)).trans r2.out)
    replace D := hid (D.out.step hp3.below)
    clear a0 a1 a2 a3 a4
    go_upto_if 29 with fail
    go_cut [7, 8, 9, 10, 11, 12, 13, 14] from 28 to 83 (fun _ _ _ _ _ _ _ _ wx => Below w.heap.size w wx)
    case first =>
      by_cases hG : G = 0
      · subst hG
        rw [if_pos rfl] at hp3 gs
        replace g1 := hid (g1.out rfl)
        obtain ⟨c, hc, g4⟩ := g2.out rfl
        clear g2
        replace g4 := hid g4
        replace g3 := hid (g3.out rfl)
        obtain ⟨pg, pc, rfl, hpc⟩ := hp3.form hen0.out
        have hp := hid hp3.bytes
        clear hp3
        have hm3 := hm1.out
        have hcb : (c == 0) = false := by simp [hc]
        have e1 : IntKind.i64.wrap ((en.length : Int) - 1) = (m : Int) := by have := hm2.out; rw [IntWalk.i64_in _ (by omega)]; omega
        have e2 : IntKind.i64.wrap (m : Int) = (m : Int) := by have := hm2.out; rw [IntWalk.i64_in _ (by omega)]
        have e3 : m ≤ pc := by omega
        clear hm3
        replace hpc := hid hpc
        go_wp2_with fail
        refine (g1.out _ _ hp.out (hT.out _ D.out)).mono ?_
        rintro e w4 ⟨cs4, rfl, h4, hr4⟩
        obtain ⟨xa, xc, za, zc, rfl, _⟩ := hr4.inv
        replace hr4 : Hid (Rd w4 (Now w4) _ _) := hr4.keep (fun b hb => hb.2) (fun _ _ => rfl)
        replace hp := hid (hp.out.later h4)
        replace r2 := hid ((h4.block _ (lt_of_block r2.out)).trans r2.out)
        replace D := hid (D.out.step h4)
        clear h4
        go_wp2_with fail
        refine (g4.out _ _ (bytes_pre (hp.out.later (below_new _ _)) (by have := hm1.out; omega)) (hT.out _ (D.out.step (below_new _ _)))).mono ?_
        rintro e w5 ⟨cs5, rfl, h5, hr5⟩
        obtain ⟨ya, yc, ua, uc, rfl, _⟩ := hr5.inv
        clear hr5
        have h5' := (below_new w4 (.cells #[.int .i64 k, .int .i64 n, .string s, .slice xa vl.length xc, .slice za fv.length zc] 25)).step h5
        have r7 := hid ((h5.block w4.heap.size (by simp)).trans (heap_alloc_new w4 _))
        replace hp := hid (hp.out.later h5')
        replace hr4 := hid (hr4.out.later h5')
        replace r2 := hid ((h5'.block _ (lt_of_block r2.out)).trans r2.out)
        replace D := hid (D.out.step h5')
        clear h5 h5'
        go_upto_region 9 with fail
        obtain ⟨w6, hw6⟩ : ∃ w6, w6 = w5.alloc (.cells #[.int .i64 0, .int .i64 0, .string ByteArray.empty, .slice ya 0 yc, .slice ua 0 uc] 25) := ⟨_, rfl⟩
        have h6 : Below w5.heap.size w5 w6 := by rw [hw6]; exact below_new _ _
        rw [← hw6]
        clear hw6
        replace r7 := hid ((h6.block _ (lt_of_block r7.out)).trans r7.out)
        replace hp := hid (hp.out.later h6)
        replace hr4 := hid (hr4.out.later h6)
        replace r2 := hid ((h6.block _ (lt_of_block r2.out)).trans r2.out)
        replace D := hid (D.out.step h6)
        clear h6
        have hoE := hid (World.ownsRow_lit (base := w6.heap.size) (e := 5) (size := 1) w6 #[] 0 (Nat.le_refl _) (by decide) rfl)
        have hnews : Hid (∀ j u, (bcells en)[j]? = some u → (w6.alloc (.cells #[] 5)).cell? ((⟨pg, 0, none⟩ : Addr).add j) = some u) := fun j u hu => by
          obtain ⟨a', c', e, _, _, h9⟩ := hp.out.later (below_new w6 (.cells #[] 5))
          injection e with e1
          rcases h9 with h0 | ⟨b, off, h4, h5, h6⟩
          · exact absurd h0 hen0.out
          · rw [← e1] at h4
            injection h4 with h4
            injection h4 with e4 e5
            subst e4 e5
            simp only [bcells, List.getElem?_map, Option.map_eq_some_iff] at hu
            obtain ⟨x, hx, rfl⟩ := hu
            have := h6 j x hx
            rwa [addr_at]
        go_wp2_with (first
          | (at_builtin; (refine wpList_append_own_any _ rfl (.tmp 45) (.tmp 46) 26 rfl w6.heap.size 5 i0 (.int .u8 0) 1 1 Tryd.underlying26 hi hz0 hz1 hz2 rfl (by decide) _ 0 [] rfl hoE.out (some ⟨pg, 0, none⟩) en.length pc (bcells en) rfl (by rw [bcells_length, Nat.mul_one]) (fun h => by cases h) (fun ad had => by obtain rfl := Option.some.inj had; exact hnews.out) (bcells_one en) (by have := hm2.out; have := hm1.out; unfold maxLen; omega) (by have := hm2.out; have := hm1.out; omega) (below_new w6 _).size ?_); intro v7 w7 hown7 hg7; replace hown7 := hid hown7; replace hg7 := hid hg7)
          | (at_builtin; (refine wpList_append_own_any _ rfl (.tmp 47) (.tmp 48) 26 rfl w6.heap.size 5 i0 (.int .u8 0) 1 1 Tryd.underlying26 hi hz0 hz1 hz2 rfl (by decide) _ (0 + en.length) ([] ++ bcells en) rfl (hown7.out.alloc _) (some ⟨w7.heap.size, 0, none⟩) 1 1 [.int .u8 1] rfl rfl (fun h => by cases h) (fun ad had => by obtain rfl := Option.some.inj had; exact cells_new w7 _ rfl [.int .u8 1] _) (by intro u hu; simp at hu; subst hu; rfl) (by have := hm2.out; have := hm1.out; unfold maxLen; omega) (by have := hm2.out; have := hm1.out; omega) (Nat.le_trans (Nat.le_trans (below_new w6 _).size hg7.out.size) (below_new w7 _).size) ?_); intro v8 w8 hown8 hg8; replace hown8 := hid hown8; replace hg8 := hid hg8
             obtain ⟨qg, cap3, rfl⟩ : ∃ qg cap3, v8 = .slice (some ⟨qg, 0, none⟩) (en.length + 1) cap3 := by
               rcases hown8.out.2 with ⟨_, h0⟩ | ⟨g, cap, cur, hv, _⟩
               · omega
               · exact ⟨g, cap, by rw [hv, Nat.zero_add]⟩))
        have N7 : Below w6.heap.size w6 w7 := (below_new w6 _).grown hg7.out (below_new w6 _).size (fun k hk => (hoE.out.lt k hk).1)
        have N8 : Below w6.heap.size w6 w8 := (N7.step (below_new w7 _)).grown hg8.out (N7.step (below_new w7 _)).size (fun k hk => (hown7.out.lt k hk).1)
        have hq8 : BytesAt w8 (Now w8) (en ++ [1]) (.slice (some ⟨qg, 0, none⟩) (en.length + 1) cap3) := by
          have hl : (en ++ [1]).length = en.length + 1 := by rw [List.length_append]; rfl
          have h := own_bytes (w := w8) (l := en ++ [1]) (m := en.length + 1) (n := en.length + 1) (g := qg) (cap := cap3) (by
            rw [bcells_append]
            have := hown8.out
            simp only [List.nil_append, Nat.zero_add] at this
            exact this) (by omega) hl.symm
          rwa [List.take_of_length_le (by omega)] at h
        replace hq8 := hid hq8
        replace r7 := hid ((N8.block _ (lt_of_block r7.out)).trans r7.out)
        replace hr4 := hid (hr4.out.later N8)
        replace r2 := hid ((N8.block _ (lt_of_block r2.out)).trans r2.out)
        replace D := hid (D.out.step N8)
        clear N7 N8 hown7 hown8 hg7 hg8 hnews hoE hp
        refine (g3.out _ _ hq8.out (hT.out _ D.out)).mono ?_
        rintro e w9 ⟨cs9, rfl, h9, hr9⟩
        obtain ⟨ta, tc, oa, oc, rfl, _⟩ := hr9.inv
        clear hr9 hq8
        replace h9 := h9.step (below_new w9 (.cells #[.int .i64 0, .int .i64 0, .string ByteArray.empty, .slice ta 0 tc, .slice oa 0 oc] 25))
        replace r7 := hid ((h9.block _ (lt_of_block r7.out)).trans r7.out)
        replace hr4 := hid (hr4.out.later h9)
        replace r2 := hid ((h9.block _ (lt_of_block r2.out)).trans r2.out)
        replace D := hid (D.out.step h9)
        clear h9
        have a0 := box_at (j := 0) r2.out rfl
        have a1 := box_at (j := 1) r2.out rfl
        have a2 := box_at (j := 2) r2.out rfl
        have a3 := box_at (j := 3) r2.out rfl
        have a4 := box_at (j := 4) r2.out rfl
        go_wp2_with fail
        refine (gs.out _ _ (hT.out _ D.out) (hV0.out.later D.out)).mono ?_
        rintro e wa ⟨rfl, ha⟩
        replace r7 := hid ((ha.block _ (lt_of_block r7.out)).trans r7.out)
        replace hr4 := hid (hr4.out.later ha)
        replace r2 := hid ((ha.block _ (lt_of_block r2.out)).trans r2.out)
        replace D := hid (D.out.step ha)
        clear ha a0 a1 a2 a3 a4
        have a0 := box_at (j := 0) r2.out rfl
        have a1 := box_at (j := 1) r2.out rfl
        have a2 := box_at (j := 2) r2.out rfl
        have a3 := box_at (j := 3) r2.out rfl
        have a4 := box_at (j := 4) r2.out rfl
        have b0 := box_at (j := 0) r7.out rfl
        have b1 := box_at (j := 1) r7.out rfl
        have b2 := box_at (j := 2) r7.out rfl
        have b3 := box_at (j := 3) r7.out rfl
        have b4 := box_at (j := 4) r7.out rfl
        go_wp2_with fail
        refine (hs3.out _ _ _ _ hr4.out (hV0.out.later D.out)).mono ?_
        rintro e wb ⟨rfl, hb⟩
        replace D := hid (D.out.step hb)
        clear hb a0 a1 a2 a3 a4 b0 b1 b2 b3 b4 r7 hr4 r2
        go_wp2_with fail
        go_meet
        exact D.out
      · clear g1 g2 g3 gs hp3
        go_wp2_with fail
        go_meet
        exact D.out
    case rest =>
      clear D
      have D := hid hcut
      clear hcut
      clear r2 gp hs3 hV0 hv haw hen0 hm1 hm2 g1 g2 g3 gs hp3
      go_wp2_with fail
      refine (gg.out _ D.out).mono ?_
      rintro e wc ⟨csc, rfl, hcb, hrc⟩
      replace hrc : Hid (Rd wc (Now wc) _ _) := hrc.keep (fun b hb => hb.2) (fun _ _ => rfl)
      replace D := hid (D.out.step hcb)
      clear hcb
      rcases hbk.out with ⟨ce, hc0, hR⟩ | ⟨V', n', hR, hN', hG', hE'⟩
      · rw [hR] at hrc ⊢
        obtain ⟨ta, tc, oa, oc, rfl, _⟩ := hrc.inv
        have hcb : (ce == 0) = false := by simp [hc0]
        have hcn : (ce != 0) = true := by simp [hc0]
        unfold Got.err
        clear hbk hR gg
        have hn := hid (below_new wc (.cells #[.int .i64 0, .int .i64 0, .string ByteArray.empty, .slice ta 0 tc, .slice oa 0 oc] 25))
        go_wp2_with fail
        refine (hzr.out _ _ (hrc.out.later hn.out)).mono ?_
        rintro e wd ⟨rfl, hd⟩
        go_wp2_with fail
        go_ret
        exact ⟨rfl, D.out.step (hn.out.step hd)⟩
      · rw [hR] at hrc ⊢
        have gp2 := hid (fun w cs hT h => put_calls V' w cs hN' hT h (by rw [hE']; omega))
        unfold Written at gp2
        rw [hG', hE', if_pos rfl] at gp2
        have gd2 := hid (fun w cs hT h => good_calls V' w cs hN' hT h)
        rw [hG'] at gd2
        replace hrc : Hid (Rd wc (Now wc) V' csc) := hrc
        unfold Got.err
        clear hbk hR gg hN' hG' hE'
        obtain ⟨vk, vn, vs, vl', vfn, vfv⟩ := V'
        obtain ⟨ta, tc, oa, oc, rfl, _⟩ := hrc.out.inv
        have hn := hid (below_new wc (.cells #[.int .i64 vk, .int .i64 vn, .string vs, .slice ta vl'.length tc, .slice oa vfv.length oc] 25))
        go_wp2_with fail
        refine (gp2.out _ _ (hT.out _ (D.out.step hn.out)) (hrc.out.later hn.out)).mono ?_
        rintro e wd ⟨vd, rfl, hqd⟩
        have hd := hqd.below
        have N := hid (hn.out.step hd)
        have c1 := conv_buf (P := Tryd.prog) Tryd.underlying26 Tryd.underlying5 Tryd.underlying9 hqd
        have c2 := conv_all (hb0.out.later (D.out.step N.out))
        have r15 := hid ((hd.block wc.heap.size (by simp)).trans (heap_alloc_new wc _))
        have a0 := box_at (j := 0) r15.out rfl
        have a1 := box_at (j := 1) r15.out rfl
        have a2 := box_at (j := 2) r15.out rfl
        have a3 := box_at (j := 3) r15.out rfl
        have a4 := box_at (j := 4) r15.out rfl
        clear hqd hd
        go_wp2_with fail
        refine (gd2.out _ _ (hT.out _ (D.out.step N.out)) (hrc.out.later N.out)).mono ?_
        rintro e we ⟨rfl, he⟩
        go_wp2_with fail
        go_ret
        exact ⟨rfl, D.out.step (N.out.step he)⟩
theorem back_card (V : PVal) (hm : V.mass ≤ 1073741824) {w : World} {cs : List Value} {bv : Value} {rs : List Int} (hT : Tabs w) (hV : Rd w (Now w) V cs) (hb : NumsAt .u8 w rs bv) (hl : rs.length ≤ 35184372088832) :
    Calls Tryd.prog 6 #[.agg cs.toArray, bv] w fun e w' => e = .returned (.bool true) ∧ Below w.heap.size w w' := by
  obtain ⟨l, h1, h2⟩ := nums_bytes hb
  exact back_calls V hm hT hV h1 (by omega)
end Go.Proofs.YtihcegakghmdfaaDoor
