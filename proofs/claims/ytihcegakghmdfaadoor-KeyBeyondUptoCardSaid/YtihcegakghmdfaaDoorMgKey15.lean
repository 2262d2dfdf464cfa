/-
  Walk: the law KeyBeyond.
-/
import Derived.Test.YtihcegakghmdfaaDoorMgKey13
import Derived.Test.YtihcegakghmdfaaDoorMgLaid
namespace Go.Proofs.YtihcegakghmdfaaDoor
open Go.RowKit Go.Proofs

theorem bytes_none {w : World} {S : Nat → Prop} {l : List UInt8} {n c : Nat} (h : BytesAt w S l (.slice none n c)) : l = [] := by
  obtain ⟨a', c', e, _, _, h9⟩ := h
  injection e with e1
  rcases h9 with h0 | ⟨b, off, h4, _⟩
  · exact h0
  · rw [← e1] at h4; cases h4
theorem owns_nil {w : World} {B e : Nat} {a : Option Addr} {n c k : Nat} {xs : List Value} (h : w.ownsRow B e 1 (.slice a n c) k xs) : a = none → n = 0 ∧ c = 0 := by
  intro ha
  subst ha
  rcases h.2 with ⟨hv, _⟩ | ⟨g, cap, cur, hv, _⟩
  · injection hv with _ e2 e3; exact ⟨e2, e3⟩
  · injection hv with e; cases e

set_option maxRecDepth 100000 in
set_option maxHeartbeats 2000000 in
theorem beyond_calls {w : World} {bv cv : Value} {l m : List UInt8} (hT : Tabs w) (hb : BytesAt w (Now w) l bv) (hb' : BytesAt w (Now w) m cv) (hnl : ∀ n c, bv = .slice none n c → c = 0) (hnm : ∀ n c, cv = .slice none n c → c = 0) (hl : l.length ≤ 17179869184) (hm : m.length ≤ 17179869184) :
    Calls Tryd.prog 9 #[bv, cv] w fun e w' => e = .returned (.bool true) ∧ Below w.heap.size w w' := by
  have hT0 := hT
  have hT := hid (fun w' hb => Tabs.stays w w' hT hb)
  have hb0 := hid hb
  have hm0 := hid hb'
  obtain ⟨a, ca, rfl, ha, ha2, _⟩ := hb
  obtain ⟨b, cb', rfl, hbb, hbb2, _⟩ := hb'
  have haw := hid awake5_calls
  have haf := hid (fun (w' : World) (h : Below w.heap.size w w') => after_calls (hb0.out.later h) hl)
  obtain ⟨R, hR⟩ : ∃ R, afterP l = R := ⟨_, rfl⟩
  rw [hR] at haf
  have hal := hid (fun h => afterP_none (l := l) h)
  have hab := hid (fun x h => afterP_above (l := l) (x := x) m h)
  have hlt := hid (fun x h => afterP_least (l := l) (x := x) m h)
  have hle := hid (fun x h => afterP_len (l := l) (x := x) h)
  rw [hR] at hal hab hlt hle
  clear hR
  have hno := hid hnl
  have hnm' := hid hnm
  clear hnl hnm
  obtain ⟨i0, hi, hz0, hz1, hz2⟩ := info_parts info_u8
  go_enter Tryd.func9, Tryd.ntmps9
  go_wp2_with fail
  refine (haw.out _ hT0).mono ?_
  rintro e w1 ⟨rfl, h1⟩
  go_wp2_with fail
  refine (haf.out _ h1).mono ?_
  rintro e w2 ⟨v2, rfl, hown2⟩
  have D2 := hid (h1.step hown2.1)
  have hx2 := hown2.bytes
  clear h1
  obtain ⟨xa, xc, rfl, hxc, _⟩ := id hx2
  replace hx2 : Hid (BytesAt w2 (Now w2) _ _) := hx2.keep (fun b hb => hb.2) (fun _ _ => rfl)
  clear hown2
  go_upto_region 4 with fail
  have hoE := hid (World.ownsRow_lit (base := w2.heap.size) (e := 5) (size := 1) w2 #[] 0 (Nat.le_refl _) (by decide) rfl)
  have hl0 : Hid (a = none → l.length = 0 ∧ ca = 0) := fun h => by
    subst h
    exact ⟨by rw [bytes_none hb0.out]; rfl, hno.out _ _ rfl⟩
  have hm1 : Hid (b = none → m.length = 0 ∧ cb' = 0) := fun h => by
    subst h
    exact ⟨by rw [bytes_none hm0.out]; rfl, hnm'.out _ _ rfl⟩
  go_upto_region 5 with (first
    | (at_builtin; (refine wpList_append_own_any _ rfl (.tmp 16) (.tmp 17) 26 rfl w2.heap.size 5 i0 (.int .u8 0) 1 1 Tryd.underlying26 hi hz0 hz1 hz2 rfl (by decide) _ 0 [] rfl hoE.out a l.length ca (bcells l) rfl (by rw [bcells_length, Nat.mul_one]) hl0.out (fun ad had => by subst had; exact (hb0.out.later (D2.out.step (below_new w2 _))).cells_at) (bcells_one l) (by unfold maxLen; omega) (by omega) (below_new w2 _).size ?_); intro v7 w7 hown7 hg7; have N7 := hid ((below_new w2 (.cells #[] 5)).grown hg7 (below_new w2 _).size (fun k hk => (hoE.out.lt k hk).1)); replace hown7 := hid hown7; clear hg7)
    | (at_builtin; (refine wpList_append_own_any _ rfl (.tmp 18) (.tmp 19) 26 rfl w2.heap.size 5 i0 (.int .u8 0) 1 1 Tryd.underlying26 hi hz0 hz1 hz2 rfl (by decide) v7 (0 + l.length) ([] ++ bcells l) rfl hown7.out b m.length cb' (bcells m) rfl (by rw [bcells_length, Nat.mul_one]) hm1.out (fun ad had => by subst had; exact (hm0.out.later (D2.out.step N7.out)).cells_at) (bcells_one m) (by unfold maxLen; omega) (by omega) N7.out.size ?_); intro v8 w8 hown8 hg8; have N8 := hid (N7.out.grown hg8 N7.out.size (fun k hk => (hown7.out.lt k hk).1)); have hlg := hid (show OwnB w2 w8 (l ++ m) v8 from ⟨N8.out, by simpa [bcells_append] using hown8⟩); clear hown8 hg8))
  have D8 := hid (D2.out.step N8.out)
  have hx8 := hid (hx2.out.later N8.out)
  have hlg8 : Hid (BytesAt w8 (Now w8) (l ++ m) v8) := hlg.out.bytes.keep (fun b hb => hb.2) (fun _ _ => rfl)
  clear hoE hl0 hm1 N7 hown7 N8 hlg hx2
  cases R with
  | none =>
    have hall := hid (hal.out rfl)
    clear hal hab hlt hle
    go_wp2_with fail
    go_loopg [8] l.length (fun gh s8 wr => ∃ (i : Nat), gh + i = l.length ∧ s8 = .int .i64 i ∧ wr = w8)
    case atStart => exact ⟨0, by omega, rfl, rfl⟩
    case round =>
      obtain ⟨i, hi, rfl, rfl⟩ := hrel
      by_cases hlt : i < l.length
      · obtain ⟨b, off, rfl, hbn, hcell⟩ : ∃ b off, a = some ⟨b, off, none⟩ ∧ Now wr b ∧ ∀ (j : Nat) (c : UInt8), l[j]? = some c → wr.cell? ⟨b, off + j, none⟩ = some (.int .u8 c.toNat) := by
          obtain ⟨a', c', e, _, _, h9⟩ := hb0.out.later D8.out
          injection e with e1
          subst e1
          rcases h9 with hs | hs
          · subst hs; simp at hlt
          · exact hs
        have hc : l[i]? = some 255 := by
          rw [List.getElem?_eq_getElem hlt, hall.out _ (List.getElem_mem hlt)]
        have hcx := hcell i 255 hc
        have i1 : (i : Int) < (l.length : Int) := by omega
        have i0 : (0 : Int) ≤ (i : Int) := by omega
        clear hcell hc
        go_wp2_with fail
        go_roundg (l.length - (i + 1))
        case measure => omega
        case rel => exact ⟨i + 1, by omega, by go_num, rfl⟩
      · go_wp2_with fail
        go_ret
        exact ⟨rfl, D8.out⟩
  | some x =>
    have h1 := hab.out x rfl
    have h2 := hlt.out x rfl
    have h3 := hle.out x rfl
    clear hal hab hlt hle
    have hcmp := hid (fun (w : World) (l m : List UInt8) (v u : Value) (h : BytesAt w (Now w) l v) (k : BytesAt w (Now w) m u) => compare5_calls h k)
    have hbeg := hid (fun (w : World) (l m : List UInt8) (v u : Value) (h : BytesAt w (Now w) l v) (k : BytesAt w (Now w) m u) => begins5_calls h k)
    have hA := hid (hcmp.out w8 (l ++ m) x _ _ hlg8.out hx8.out)
    rw [h1] at hA
    have hB := hid (hcmp.out w8 m x _ _ (hm0.out.later D8.out) hx8.out)
    have hC := hid (hcmp.out w8 m l _ _ (hm0.out.later D8.out) (hb0.out.later D8.out))
    have hE := hid (hbeg.out w8 m l _ _ (hm0.out.later D8.out) (hb0.out.later D8.out))
    have hst : (l.length ≤ m.length ∧ m.take l.length = l) → starts m l = true := fun ⟨p, q⟩ => by unfold starts; simp [p, q]
    replace hst := hid hst
    replace h2 := hid h2
    clear h1 hcmp hbeg
    simp only [Option.getD_some] at hA hB ⊢
    have d3 : decide ((x.length : Int) ≤ (l.length : Int)) = true := decide_eq_true (by omega)
    have i3 : (x.length : Int) ≤ (l.length : Int) := by omega
    generalize starts m l = ST at *
    generalize cb m x = CX at *
    generalize cb m l = CL at *
    by_cases p1 : 0 ≤ CX
    · have e1 : decide (0 ≤ CX) = true := decide_eq_true p1
      go_wp2_with fail
      refine hA.out.mono ?_
      rintro e w9 ⟨rfl, rfl⟩
      go_wp2_with fail
      refine hB.out.mono ?_
      rintro e w9 ⟨rfl, rfl⟩
      go_wp2_with fail
      go_ret
      exact ⟨rfl, D8.out⟩
    · have e1 : decide (0 ≤ CX) = false := decide_eq_false p1
      by_cases p2 : CL < 0
      · have e2 : decide (CL < 0) = true := decide_eq_true p2
        go_wp2_with fail
        refine hA.out.mono ?_
        rintro e w9 ⟨rfl, rfl⟩
        go_wp2_with fail
        refine hB.out.mono ?_
        rintro e w9 ⟨rfl, rfl⟩
        go_wp2_with fail
        refine hC.out.mono ?_
        rintro e w9 ⟨rfl, rfl⟩
        go_wp2_with fail
        go_ret
        exact ⟨rfl, D8.out⟩
      · have e2 : decide (CL < 0) = false := decide_eq_false p2
        have e3 : ST = true := hst.out (by
          rcases h2.out with h | h | h
          · exact absurd h p1
          · exact absurd h p2
          · exact h)
        subst e3
        go_wp2_with fail
        refine hA.out.mono ?_
        rintro e w9 ⟨rfl, rfl⟩
        go_wp2_with fail
        refine hB.out.mono ?_
        rintro e w9 ⟨rfl, rfl⟩
        go_wp2_with fail
        refine hC.out.mono ?_
        rintro e w9 ⟨rfl, rfl⟩
        go_wp2_with fail
        refine hE.out.mono ?_
        rintro e w9 ⟨rfl, h9⟩
        go_wp2_with fail
        go_ret
        exact ⟨rfl, D8.out.step h9⟩
theorem beyond_card {w : World} {bv cv : Value} {rs rs' : List Int} (hT : Tabs w) (hb : NumsAt .u8 w rs bv) (hb' : NumsAt .u8 w rs' cv) (hf : bv = .slice none 0 0 ∨ ∃ ad n c, bv = .slice (some ad) n c) (hf' : cv = .slice none 0 0 ∨ ∃ ad n c, cv = .slice (some ad) n c) (hl : rs.length ≤ 17179869184) (hm : rs'.length ≤ 17179869184) :
    Calls Tryd.prog 9 #[bv, cv] w fun e w' => e = .returned (.bool true) ∧ Below w.heap.size w w' := by
  obtain ⟨l, h1, h2⟩ := bytes_of_nums hb
  obtain ⟨m, h3, h4⟩ := bytes_of_nums hb'
  exact beyond_calls hT h1 h3 (form_cap hf) (form_cap hf') (by omega) (by omega)
end Go.Proofs.YtihcegakghmdfaaDoor
