/-
  Walks: the reference's Zero; awake of the codec's statements.
  Walk: the law CodecNumbers.
-/
import Derived.Test.YtihcegakghmdfaaDoorMgDec7
import Derived.Test.YtihcegakghmdfaaDoorMgEnc1
import Derived.Test.YtihcegakghmdfaaDoorMgVal20
import Derived.Deep.RegionLaw
import Derived.Test.YtihcegakghmdfaaDoorMgOpenU
namespace Go.Proofs.YtihcegakghmdfaaDoor
open Go.RowKit Go.Proofs

/-- The value of none. -/
def zeroV : PVal := .mk 0 0 ByteArray.empty [] [] []
theorem rd_zero {w : World} {S : Nat → Prop} : Rd w S zeroV [.int .i64 0, .int .i64 0, .string ByteArray.empty, .slice none 0 0, .slice none 0 0] := rd_atom ⟨by decide, by decide⟩ ⟨by decide, by decide⟩ (by decide)

set_option maxRecDepth 100000 in
theorem zero_calls (V : PVal) (R : Bool) (hR : R = true ↔ V = zeroV) (w : World) (cs : List Value) (hV : Rd w (Now w) V cs) :
    Calls Tryd.prog 24 #[.agg cs.toArray] w fun e w' => e = .returned (.bool R) ∧ Below w.heap.size w w' := by
  have hs := hid (fun w cs cs' => same_calls V zeroV R hR w cs cs')
  have hV0 := hid hV
  clear hR
  obtain ⟨k, n, s, l, fn, fv⟩ := V
  obtain ⟨la, lc, fa, fc, rfl, _⟩ := hV.inv
  clear hV
  have hB0 := hid (below_new w (.cells #[.int .i64 k, .int .i64 n, .string s, .slice la l.length lc, .slice fa fv.length fc] 25))
  go_enter Tryd.func24, Tryd.ntmps24
  go_wp2_with fail
  refine (hs.out _ _ _ (hV0.out.later hB0.out) rd_zero).mono ?_
  rintro e w1 ⟨rfl, h1⟩
  go_wp2_with fail
  go_ret
  exact ⟨rfl, hB0.out.step h1⟩

/-- Bytes that were just laid. -/
theorem bytes_new {w : World} {cs : Array Value} {t : TypeId} (l : List UInt8) (hc : cs = (bcells l).toArray) (hl : l.length ≤ 9223372036854775807) : BytesAt (w.alloc (.cells cs t)) (Now (w.alloc (.cells cs t))) l (.slice (some ⟨w.heap.size, 0, none⟩) l.length l.length) := by
  refine ⟨_, _, rfl, Nat.le_refl _, hl, .inr ⟨w.heap.size, 0, rfl, by show _ < _; simp, fun j c hj => ?_⟩⟩
  have := src_new (w := w) l t hc rfl j (.int .u8 c.toNat) (by simp [bcells, hj])
  rwa [show (⟨w.heap.size, 0, none⟩ : Addr).add j = ⟨w.heap.size, 0 + j, none⟩ by rw [Addr.add]; split <;> simp_all] at this

/-- The number -1. -/
def minusV : PVal := .mk 3 (-1) ByteArray.empty [] [] []
theorem rd_minus {w : World} {S : Nat → Prop} : Rd w S minusV [.int .i64 3, .int .i64 (-1), .string ByteArray.empty, .slice none 0 0, .slice none 0 0] := rd_atom ⟨by decide, by decide⟩ ⟨by decide, by decide⟩ (by decide)
theorem minus_good : minusV.good = 0 := by decide +kernel
theorem minus_enc : minusV.enc = [3, 1] := by decide +kernel
theorem minus_get : getR [3, 1] = .ok minusV 2 := by rfl

set_option maxRecDepth 100000 in
set_option maxHeartbeats 1000000 in
theorem awake3_calls (w : World) (hT : Tabs w) : Calls Tryd.prog 30 #[] w fun e w' => e = .returned (.bool true) ∧ Below w.heap.size w w' := by
  have hi := hid (fun w => int_calls (-1) w)
  have hT := hid (fun w' hb => Tabs.stays w w' hT hb)
  have hp := hid (fun w' (hb : Below w.heap.size w w') => put_calls minusV w' _ (by decide +kernel) (hT.out _ hb) rd_minus (by rw [minus_enc]; decide))
  unfold Written at hp
  rw [minus_good, minus_enc] at hp
  simp only [if_true] at hp
  have hs := hid (fun w cs cs' => same3_calls minusV minusV true (by simp) w cs cs')
  go_enter Tryd.func30, Tryd.ntmps30
  go_wp2_with fail
  refine (hi.out _).mono ?_
  rintro e w1 ⟨rfl, h1⟩
  go_wp2_with fail
  refine (hp.out _ h1).mono ?_
  rintro e w2 ⟨v, rfl, hb2⟩
  have B2 := hid (h1.step hb2.below)
  have hg := hid (get_calls (w := w2.alloc (.cells #[.int .u8 3, .int .u8 1] 5)) (bytes_new [3, 1] rfl (by decide)) (hT.out _ (B2.out.step (below_new _ _))) (by decide))
  rw [minus_get] at hg
  replace hb2 := hid hb2
  clear h1
  go_wp2_with fail
  refine hg.out.mono ?_
  rintro e w4 ⟨h4, cs4, rfl, hr4⟩
  obtain ⟨ka, kc, kf, kg, rfl, _⟩ := hr4.inv
  have B4 := hid (B2.out.step ((below_new w2 _).step h4))
  have hb4 := hid (hb2.out.later ((below_new w2 _).step h4))
  have hr5 : Hid (Rd w4 (Now w4) minusV [.int .i64 3, .int .i64 (-1), .string ByteArray.empty, .slice ka 0 kc, .slice kf 0 kg]) := hr4.keep (fun b hb => hb.2) (fun _ _ => rfl)
  clear hr4 h4
  go_upto_region 3 with fail
  obtain ⟨w5, hw5⟩ : ∃ w5, w5 = w4.alloc (.cells #[.int .i64 3, .int .i64 (-1), .string ByteArray.empty, .slice ka 0 kc, .slice kf 0 kg] 25) := ⟨_, rfl⟩
  have hn5 : Hid (Below w4.heap.size w4 w5) := by show Below _ _ _; rw [hw5]; exact below_new _ _
  have r5 : w5.heap[w4.heap.size]? = some (.cells #[.int .i64 3, .int .i64 (-1), .string ByteArray.empty, .slice ka 0 kc, .slice kf 0 kg] 25 (0, 0)) := by rw [hw5]; exact heap_alloc_new _ _
  rw [← hw5]
  clear hw5
  have hcv : ∀ p : Later w5, (convert 26 9 v).run Tryd.prog p.x = .ok (.string ⟨#[3, 1]⟩) p.x := fun p => conv_buf Tryd.underlying26 Tryd.underlying5 Tryd.underlying9 (hb4.out.later (hn5.out.step p.h))
  have qi := hid (fun (p : Later w5) => hi.out p.x)
  have qs := hid (fun (p : Later w5) => hs.out p.x [.int .i64 3, .int .i64 (-1), .string ByteArray.empty, .slice ka 0 kc, .slice kf 0 kg] [.int .i64 3, .int .i64 (-1), .string ByteArray.empty, .slice none 0 0, .slice none 0 0] (hr5.out.later (hn5.out.step p.h)) rd_minus)
  have a0 := Later.cell (box_at (j := 0) r5 rfl)
  have a1 := Later.cell (box_at (j := 1) r5 rfl)
  have a2 := Later.cell (box_at (j := 2) r5 rfl)
  have a3 := Later.cell (box_at (j := 3) r5 rfl)
  have a4 := Later.cell (box_at (j := 4) r5 rfl)
  clear r5
  refine wp_later (by kernel_rfl) (by kernel_rfl) ?_
  repeat (go_big_quiet_step ((first
    | (go_at_call 41; exact later_calls _ (qi.out _))
    | (go_at_call 32; exact later_calls _ (qs.out _)))))
  refine wpQuiet_nil ?_
  rintro _ ⟨q, rfl⟩
  clear hcv a0 a1 a2 a3 a4
  go_wp2_with fail
  go_ret
  exact ⟨rfl, (B4.out.step hn5.out).step q.h⟩
end Go.Proofs.YtihcegakghmdfaaDoor

namespace Go.Proofs.YtihcegakghmdfaaDoor
open Go.RowKit Go.Proofs

theorem numbered_case {R : Got Nat} {z : Int} {w w' : World} {e : Ending} (h : Numbered R z w e w') : Below w.heap.size w w' ∧ ∃ (x : Nat) (y c : Int), e = .returned (.tuple #[.int .u64 x, .int .i64 y, .int .i64 c]) ∧
    (∀ c', R = .bad c' → x = 0 ∧ y = 0 ∧ c = c') ∧ (∀ n k, R = .ok n k → x = n ∧ y = z + (k : Int) ∧ c = 0) := by
  obtain ⟨h1, h2⟩ := h
  refine ⟨h1, ?_⟩
  cases R with
  | bad c => exact ⟨0, 0, c, h2, fun c' h => by injection h with h; exact ⟨rfl, rfl, h⟩, fun _ _ h => by cases h⟩
  | ok n k => exact ⟨n, z + k, 0, h2, (fun c' (h : Got.ok n k = .bad c') => by cases h), (fun n' k' (h : Got.ok n k = .ok n' k') => by injection h with h1 h2; subst h1 h2; exact ⟨rfl, rfl, rfl⟩)⟩

set_option maxRecDepth 100000 in
set_option maxHeartbeats 4000000 in
theorem numbers_calls (n : Nat) (hn : n < 18446744073709551616) (z : Int) (hz : I64 z) {w : World} {bv : Value} {l : List UInt8} (hb : BytesAt w (Now w) l bv) (hl : l.length ≤ 140737488355328) (hT : Tabs w) :
    Calls Tryd.prog 12 #[.int .u64 n, bv, .int .i64 z] w fun e w' => e = .returned (.bool true) ∧ Below w.heap.size w w' := by
  have hnu := hid (enumber_calls hb hl z hz)
  have hb0 := hid hb
  have haw := hid awake3_calls
  have hT := hid (fun w' hb => Tabs.stays w w' hT hb)
  have hva := hid (fun w => evarint_calls n hn w)
  have hvr := hid (fun w => rvarint_calls n hn w)
  have hrn := hid (fun (p : Nat) (hp : p ≤ l.length) (w' : World) (h : Below w.heap.size w w') => rnumber_calls (hb.later h) hl p hp)
  obtain ⟨R, hR⟩ : ∃ R, R = numAt l z := ⟨_, rfl⟩
  rw [← hR] at hnu
  replace hR := hid hR
  obtain ⟨a, cap, rfl, hc1, hc2, hcell⟩ := hb
  clear hcell
  generalize varint n = V at *
  go_enter Tryd.func12, Tryd.ntmps12
  go_wp2_with fail
  refine hnu.out.mono ?_
  intro e w1 hR1
  obtain ⟨h1, x, y, c, rfl, hbad, hok⟩ := numbered_case hR1
  have B1 := hid h1
  replace hbad := hid hbad
  replace hok := hid hok
  clear h1 hR1
  go_upto_region 2 with fail
  go_region_law (first
    | (go_simp; go_at_call 30
       refine (haw.out _ (hT.out _ (B1.out.drew))).mono ?_
       rintro e w2 ⟨rfl, h2⟩
       have B2 := hid (B1.out.step ((Below.refl _ _).drew.trans h2)))
    | (go_simp; go_at_call 52
       refine (hva.out _).mono ?_
       rintro e wa ⟨va, rfl, hba⟩
       have hca := conv_buf (P := Tryd.prog) Tryd.underlying26 Tryd.underlying5 Tryd.underlying9 hba
       have Ba := hid hba.below
       replace hba := hid hba
       try (have hcr' := conv_buf (P := Tryd.prog) Tryd.underlying26 Tryd.underlying5 Tryd.underlying9 (hbr.out.later Ba.out)))
    | (go_simp; go_at_call 53
       refine (hvr.out _).mono ?_
       rintro e wb ⟨vr, rfl, gr, cr, rfl, hbr⟩
       have hcr := conv_buf (P := Tryd.prog) Tryd.underlying26 Tryd.underlying5 Tryd.underlying9 hbr
       have Br := hid hbr.below
       replace hbr := hid hbr
       try (have hca' := conv_buf (P := Tryd.prog) Tryd.underlying26 Tryd.underlying5 Tryd.underlying9 (hba.out.later Br.out))))
  all_goals
    by_cases hneg : z < 0
    · obtain ⟨rfl, rfl, rfl⟩ := hbad.out 1 (by rw [hR.out]; unfold numAt; rw [if_pos (.inl hneg)])
      clear hbad hok
      go_wp2_with fail
      go_ret
      first | exact ⟨rfl, (B2.out.step Ba.out).step Br.out⟩ | exact ⟨rfl, (B2.out.step Br.out).step Ba.out⟩ | exact ⟨by simp, (B2.out.step Ba.out).step Br.out⟩ | exact ⟨by simp, (B2.out.step Br.out).step Ba.out⟩
    by_cases hbig : (l.length : Int) < z
    · obtain ⟨rfl, rfl, rfl⟩ := hbad.out 1 (by rw [hR.out]; unfold numAt; rw [if_pos (.inr hbig)])
      clear hbad hok
      go_wp2_with fail
      go_ret
      first | exact ⟨rfl, (B2.out.step Ba.out).step Br.out⟩ | exact ⟨rfl, (B2.out.step Br.out).step Ba.out⟩ | exact ⟨by simp, (B2.out.step Ba.out).step Br.out⟩ | exact ⟨by simp, (B2.out.step Br.out).step Ba.out⟩
    obtain ⟨p, rfl⟩ := Int.eq_ofNat_of_zero_le (Int.not_lt.1 hneg)
    have hRn : R = numR 0 0 (l.drop p) := by rw [hR.out]; unfold numAt; rw [if_neg (by omega)]; rfl
    have hrn2 := hid (fun w' h => hrn.out p (by omega) w' h)
    rw [← hRn] at hrn2
    clear hRn hR
    cases R with
    | bad c' =>
      obtain ⟨rfl, rfl, rfl⟩ := hbad.out c' rfl
      clear hbad hok
      go_wp2_with fail
      refine (hrn2.out _ (by first | exact (B2.out.step Ba.out).step Br.out | exact (B2.out.step Br.out).step Ba.out)).mono ?_
      rintro e w9 ⟨rfl, rfl⟩
      go_wp2_with fail
      go_ret
      first | exact ⟨rfl, (B2.out.step Ba.out).step Br.out⟩ | exact ⟨rfl, (B2.out.step Br.out).step Ba.out⟩ | exact ⟨by simp, (B2.out.step Ba.out).step Br.out⟩ | exact ⟨by simp, (B2.out.step Br.out).step Ba.out⟩
    | ok nn k =>
      obtain ⟨rfl, rfl, rfl⟩ := hok.out nn k rfl
      clear hbad hok
      go_wp2_with fail
      refine (hrn2.out _ (by first | exact (B2.out.step Ba.out).step Br.out | exact (B2.out.step Br.out).step Ba.out)).mono ?_
      rintro e w9 ⟨rfl, rfl⟩
      go_wp2_with fail
      go_ret
      first | exact ⟨rfl, (B2.out.step Ba.out).step Br.out⟩ | exact ⟨rfl, (B2.out.step Br.out).step Ba.out⟩ | exact ⟨by simp, (B2.out.step Ba.out).step Br.out⟩ | exact ⟨by simp, (B2.out.step Br.out).step Ba.out⟩

theorem nums_bytes {w : World} {rs : List Int} {v : Value} (h : NumsAt .u8 w rs v) : ∃ l : List UInt8, BytesAt w (Now w) l v ∧ l.length = rs.length := by
  obtain ⟨a, cap, rfl, h1, h2, h3, h4⟩ := h
  have hlen : (rs.map fun x => UInt8.ofNat x.toNat).length = rs.length := List.length_map _
  refine ⟨rs.map fun x => UInt8.ofNat x.toNat, ⟨a, cap, by rw [hlen], by rw [hlen]; exact h1, h2, ?_⟩, hlen⟩
  rcases h4 with rfl | ⟨b, off, rfl, hb, hc⟩
  · exact .inl rfl
  · refine .inr ⟨b, off, rfl, hb, fun j c hj => ?_⟩
    rw [List.getElem?_map] at hj
    obtain ⟨x, hx, rfl⟩ := Option.map_eq_some_iff.1 hj
    rw [hc j x hx]
    have := h3 x (List.mem_of_getElem? hx)
    simp only [Lit.wf, Bool.and_eq_true, decide_eq_true_eq] at this
    have h5 : (0 : Int) ≤ x ∧ x ≤ 255 := this
    rw [UInt8.toNat_ofNat']
    congr 2
    omega
theorem numbers_card {w : World} {n z : Int} {bv : Value} {rs : List Int} (hn : (Lit.int .u64 n).wf = true) (hz : (Lit.int .i64 z).wf = true) (hb : NumsAt .u8 w rs bv) (hl : rs.length ≤ 140737488351232) (hT : Tabs w) :
    Calls Tryd.prog 12 #[.int .u64 n, bv, .int .i64 z] w fun e w' => e = .returned (.bool true) ∧ Below w.heap.size w w' := by
  simp only [Lit.wf, Bool.and_eq_true, decide_eq_true_eq] at hn hz
  have hn1 : (0 : Int) ≤ n ∧ n ≤ 18446744073709551615 := hn
  have hz1 : (-9223372036854775808 : Int) ≤ z ∧ z ≤ 9223372036854775807 := hz
  obtain ⟨m, rfl⟩ := Int.eq_ofNat_of_zero_le hn1.1
  obtain ⟨l, h1, h2⟩ := nums_bytes hb
  exact numbers_calls m (by omega) z hz1 h1 (by omega) hT
end Go.Proofs.YtihcegakghmdfaaDoor
