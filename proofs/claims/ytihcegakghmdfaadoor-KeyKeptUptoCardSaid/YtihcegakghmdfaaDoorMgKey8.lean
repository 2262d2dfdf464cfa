/-
  Walks: the key's reader: must, byte, text.
  Walk: the key's reader's value.
-/
import Derived.Test.YtihcegakghmdfaaDoorMgDec1
import Derived.Test.YtihcegakghmdfaaDoorMgHel
import Derived.Test.YtihcegakghmdfaaDoorMgKeyP
import Derived.Test.YtihcegakghmdfaaDoorMgKey1
import Derived.Test.YtihcegakghmdfaaDoorMgVal14
import Derived.Test.YtihcegakghmdfaaDoorMgBuf
import Derived.Deep.RegionHeld3
import Derived.Deep.RegionLaw
import Derived.Deep.CutBlock
import Derived.Laws.Shifts
namespace Go.Proofs.YtihcegakghmdfaaDoor
open Go.RowKit Go.Proofs

theorem kmust_yes (w : World) : Calls Tryd.prog 84 #[.bool true] w fun e w' => e = .returned (.tuple #[]) ∧ w = w' := by
  go_enter Tryd.func84, Tryd.ntmps84
  go_wp2_with fail
  go_returns
  exact ⟨rfl, rfl⟩
theorem kmust_no (w : World) : Calls Tryd.prog 84 #[.bool false] w fun e w' => Thrown e 4 ∧ w = w' := by
  go_enter Tryd.func84, Tryd.ntmps84
  go_wp2_with fail
  exact ⟨rfl, rfl, rfl⟩

/-- The reader's box lies in block g (two boxes ahead of it are the call's own): these bytes are ahead of it. -/
structure KAt (w : World) (g : Nat) (r : List UInt8) : Prop where
  ex : ∃ sv, w.heap[g]? = some (.cells #[sv] 111 (0, 0)) ∧ BytesAt w (fun b => b + 2 < g) r sv
  lim : r.length ≤ 140737488355328
theorem KAt.lt {w : World} {g : Nat} {r : List UInt8} (h : KAt w g r) : g < w.heap.size := let ⟨_, h1, _⟩ := h.ex; lt_of_block h1
theorem KAt.keep {w w' : World} {g : Nat} {r : List UInt8} (h : KAt w g r) (hb : ∀ b, b ≤ g → w'.heap[b]? = w.heap[b]?) : KAt w' g r := by
  obtain ⟨⟨sv, h1, h2⟩, h3⟩ := h
  exact ⟨⟨sv, (hb g (Nat.le_refl _)).trans h1, h2.keep (fun _ k => k) (fun b k => hb b (by omega))⟩, h3⟩
theorem KAt.later {w w' : World} {g : Nat} {r : List UInt8} (h : KAt w g r) (hb : Below w.heap.size w w') : KAt w' g r :=
  h.keep fun b k => hb.block b (Nat.lt_of_le_of_lt k h.lt)

set_option maxRecDepth 100000 in
theorem kbyte_some {w : World} {g : Nat} {d : UInt8} {r : List UInt8} (h : KAt w g (d :: r)) :
    Calls Tryd.prog 111 #[.pointer (some ⟨g, 0, none⟩)] w fun e w' => e = .returned (.int .u8 d.toNat) ∧ Save g w w' ∧ KAt w' g r := by
  obtain ⟨⟨sv, hrow, a, cap, rfl, hc1, hc2, hs⟩, hlim⟩ := h
  obtain ⟨b, off, rfl, hb, hcell⟩ : ∃ b off, a = some ⟨b, off, none⟩ ∧ b + 2 < g ∧ ∀ (j : Nat) (c : UInt8), (d :: r)[j]? = some c → w.cell? ⟨b, off + j, none⟩ = some (.int .u8 c.toNat) := by
    rcases hs with hs | hs
    · cases hs
    · exact hs
  rw [List.length_cons] at hrow hc1 hlim
  have c0 := box_at (j := 0) hrow rfl
  have f0 := box_free hrow 0
  have cx : w.cell? ⟨b, off, none⟩ = some (.int .u8 d.toNat) := hcell 0 d rfl
  have hmy := hid kmust_yes
  have q0 : decide (0 < r.length + 1) = true := decide_eq_true (by omega)
  have hrow' := hid hrow
  have hcell' := hid hcell
  clear hs hcell hrow
  go_enter Tryd.func111, Tryd.ntmps111
  go_wp2_with fail
  refine (hmy.out _).mono ?_
  rintro e w1 ⟨rfl, rfl⟩
  go_wp2_with fail
  · go_ret
    have hr0 : r = [] := List.eq_nil_of_length_eq_zero (by omega)
    subst hr0
    refine ⟨rfl, Save.set w g 0 _, ⟨_, row_setCell hrow'.out, _, _, rfl, Nat.zero_le _, by omega, .inl rfl⟩, by simp⟩
  · go_ret
    refine ⟨rfl, Save.set w g 0 _, ⟨_, row_setCell hrow'.out, _, _, rfl, by omega, by omega, .inr ⟨b, off + 1, rfl, hb, fun j c hj => ?_⟩⟩, by omega⟩
    have h1 := hcell'.out (j + 1) c (by simpa using hj)
    rw [World.cell?_setCell_other _ _ _ _ (by intro h; simp only [Addr.mk.injEq] at h; omega)]
    rw [show off + 1 + j = off + (j + 1) by omega]
    exact h1

theorem kbyte_none {w : World} {g : Nat} (h : KAt w g []) :
    Calls Tryd.prog 111 #[.pointer (some ⟨g, 0, none⟩)] w fun e w' => Thrown e 4 ∧ Save g w w' := by
  obtain ⟨⟨sv, hrow, a, cap, rfl, hc1, hc2, hs⟩, hlim⟩ := h
  have c0 := box_at (j := 0) hrow rfl
  have hmn := hid kmust_no
  clear hs hrow
  go_enter Tryd.func111, Tryd.ntmps111
  go_wp2_with fail
  refine (hmn.out _).mono ?_
  rintro e w1 ⟨rfl, rfl⟩
  go_wp2_with fail
  exact ⟨rfl, rfl, Save.refl _ _⟩

/-- What the reader tells: an error thrown, or something, and what is ahead of it then. -/
def ToldK {α : Type} (R : Option (α × Nat)) (give : World → α → Value → Prop) (w : World) (g : Nat) (r : List UInt8) (e : Ending) (w' : World) : Prop :=
  Save g w w' ∧ match R with
  | none => Thrown e 4
  | some (x, n) => ∃ v, e = .returned v ∧ give w' x v ∧ KAt w' g (r.drop n)
theorem toldK_none {α : Type} {R : Option (α × Nat)} {give : World → α → Value → Prop} {w : World} {g : Nat} {r : List UInt8} {w' : World} (hR : R = none) (hs : Save g w w') :
    ToldK R give w g r (.panicked [{ v := .iface 28 (.int .i64 4), recovered := false }]) w' := by
  subst hR; exact ⟨hs, rfl⟩
theorem toldK_some {α : Type} {R : Option (α × Nat)} {give : World → α → Value → Prop} {w : World} {g : Nat} {r r' : List UInt8} {w' : World} {x : α} {n : Nat} {v : Value} (hR : R = some (x, n)) (hs : Save g w w') (hg : give w' x v) (hr : r' = r.drop n) (ha : KAt w' g r') :
    ToldK R give w g r (.returned v) w' := by
  subst hR hr; exact ⟨hs, v, rfl, hg, ha⟩

/-- A text that is being read: the reader's box in g, the text's row in new memory. -/
structure KTx (g : Nat) (w wr : World) (l : List UInt8) (v : Value) : Prop where
  buf : Buf g 5 w wr l v
  own : ∀ b, v.ownBlock = some b → w.heap.size ≤ b
  save : Save g w wr
theorem KTx.call {g : Nat} {w wr w' : World} {l : List UInt8} {v : Value} (h : KTx g w wr l v) (hg : g < w.heap.size) (hs : Save g wr w') : KTx g w w' l v := by
  refine ⟨⟨h.buf.1.kept (row := some g) ⟨hs.os, hs.tape, hs.output, hs.size, fun k hk hne => hs.block k hk (fun e => hne (by rw [e]))⟩ ?_, h.buf.2.1.trans (hs.below (Nat.le_refl _) (by have := h.save.size; omega)), Nat.le_trans h.buf.2.2 hs.size⟩, h.own, h.save.trans hs⟩
  exact .inr (fun e => by have := h.own g e; omega)
theorem KTx.ext {g : Nat} {w wr w' : World} {l l' : List UInt8} {v v' : Value} (h : KTx g w wr l v) (hb : Buf g 5 w w' l' v') (he : Ext wr w' v v') : KTx g w w' l' v' :=
  ⟨hb, fun b hb' => by
    rcases he.own b hb' with h1 | h1
    · exact h.own b h1
    · have := h.save.size; omega, ⟨he.grown.os.trans h.save.os, he.grown.tape.trans h.save.tape, he.grown.output.trans h.save.output, Nat.le_trans h.save.size he.size, fun k hk hne =>
      (he.block (Nat.lt_of_lt_of_le hk h.save.size) (fun e => by have := h.own k e; omega)).trans (h.save.block k hk hne)⟩⟩
theorem KAt.ext {g : Nat} {w wr w' : World} {l : List UInt8} {v v' : Value} {r : List UInt8} (h : KAt wr g r) (ht : KTx g w wr l v) (hg : g < w.heap.size) (he : Ext wr w' v v') : KAt w' g r :=
  h.keep fun b hb => he.block (by have := ht.save.size; omega) (fun e => by have := ht.own b e; omega)

set_option maxRecDepth 100000 in
set_option maxHeartbeats 4000000 in
theorem ktext_calls {w : World} {g : Nat} {r : List UInt8} (h : KAt w g r) :
    Calls Tryd.prog 112 #[.pointer (some ⟨g, 0, none⟩)] w (ToldK (txtK false r) (fun _ t v => v = .string ⟨t.toArray⟩) w g r) := by
  obtain ⟨i, hP⟩ := byte8
  obtain ⟨G, hG⟩ : ∃ G, G = txtK false r := ⟨_, rfl⟩
  have hg := hid h.lt
  have hlim := hid h.lim
  have h0 := hid h
  have hgo : Hid (GoT G [] 0 (txtK false (r.drop 0))) := by show GoT _ _ _ _; rw [List.drop_zero, ← hG]; exact goT_start G
  rw [← hG]
  clear hG h
  have hbs := hid (fun (w : World) (d : UInt8) (r : List UInt8) (h : KAt w g (d :: r)) => kbyte_some h)
  have hbn := hid (fun (w : World) (h : KAt w g []) => kbyte_none h)
  go_enter Tryd.func112, Tryd.ntmps112
  go_wp2_with fail
  go_loopg [3, 4] r.length (fun gh s3 s4 wr => ∃ (c : Nat) (t : List UInt8) (v : Value), gh + c = r.length ∧ t.length ≤ c ∧ v = s3 ∧ Hid (GoT G t c (txtK false (r.drop c))) ∧ Hid (KAt wr g (r.drop c)) ∧ Hid (KTx g w wr t v))
  case atStart => exact ⟨0, [], _, by omega, by simp, rfl, hgo, h0, ⟨Buf.nil (Below.refl _ _) (Nat.le_of_lt hg.out), by simp [Value.ownBlock], Save.refl _ _⟩⟩
  case round =>
    clear hgo h0
    obtain ⟨c, t, v, hc, htl, rfl, hgo, hat, htx⟩ := hrel
    cases hd : r.drop c with
    | nil =>
      rw [hd] at hgo hat
      replace hgo := hid (goT_nil hgo.out)
      go_wp2_with fail
      refine (hbn.out _ hat.out).mono ?_
      rintro e w1 ⟨rfl, h1⟩
      go_wp2_with fail
      exact ⟨rfl, toldK_none hgo.out (htx.out.save.trans h1)⟩
    | cons a r1 =>
      have hd1 : Hid (r.drop (c + 1) = r1) := by show _ = _; rw [← List.drop_drop, hd]; rfl
      have hcl : Hid (c < r.length) := by
        show _ < _
        have := congrArg List.length hd
        rw [List.length_drop, List.length_cons] at this
        omega
      rw [hd] at hgo hat
      clear hd
      by_cases ha : a = 0
      · subst ha
        cases r1 with
        | nil =>
          replace hgo := hid (goT_zero hgo.out)
          go_wp2_with fail
          refine (hbs.out _ _ _ hat.out).mono ?_
          rintro e w1 ⟨rfl, h1, h2⟩
          go_wp2_with fail
          refine (hbn.out _ h2).mono ?_
          rintro e w2 ⟨rfl, h3⟩
          go_wp2_with fail
          exact ⟨rfl, toldK_none hgo.out ((htx.out.save.trans h1).trans h3)⟩
        | cons d r2 =>
          have hd2 : Hid (r.drop (c + 2) = r2) := by show _ = _; rw [show c + 2 = c + 1 + 1 from rfl, ← List.drop_drop, hd1.out]; rfl
          have hcl2 : Hid (c + 1 < r.length) := by
            show _ < _
            have := congrArg List.length hd1.out
            rw [List.length_drop, List.length_cons] at this
            omega
          by_cases h255 : d = 255
          · subst h255
            have hgo2 := hid (goT_esc hgo.out)
            go_wp2_with fail
            refine (hbs.out _ _ _ hat.out).mono ?_
            rintro e w1 ⟨rfl, h1, h2⟩
            have ht1 := hid (htx.out.call hg.out h1)
            go_wp2_with fail
            refine (hbs.out _ _ _ h2).mono ?_
            rintro e w2 ⟨rfl, h3, h4⟩
            have ht2 := hid (ht1.out.call hg.out h3)
            replace h4 := hid h4
            go_wp2_with (first
              | (at_builtin; (refine wpList_ext_bytes rfl _ _ rfl hP rfl (ht2.out.buf.later (below_new _ _)) [0] w2.heap.size 1 1 rfl rfl (src_new [0] _ rfl rfl) (by have := hcl2.out; have := hlim.out; simp only [List.length_singleton]; omega) ?_); intro v' w3 hb3 he3))
            have he4 := (Ext.of_below v (below_new w2 (.cells #[.int .u8 0] 5))).trans he3
            have ht3 := hid (ht2.out.ext hb3 he4)
            have hk3 := hid (h4.out.ext ht2.out hg.out he4)
            go_roundg (r.length - (c + 2))
            case measure => have := hcl2.out; omega
            case rel => exact ⟨c + 2, t ++ [0], v', by have := hcl2.out; omega, by simp; omega, rfl, by rw [hd2.out]; exact hgo2, by rw [hd2.out]; exact hk3, ht3⟩
          · replace hgo := hid (goT_end hgo.out h255)
            have hne : ¬ d.toNat = 255 := fun e => h255 (UInt8.toNat_inj.1 e)
            have hnb : ((d.toNat : Int) != 255) = true := by simp; omega
            go_wp2_with fail
            refine (hbs.out _ _ _ hat.out).mono ?_
            rintro e w1 ⟨rfl, h1, h2⟩
            have ht1 := hid (htx.out.call hg.out h1)
            go_wp2_with fail
            refine (hbs.out _ _ _ h2).mono ?_
            rintro e w2 ⟨rfl, h3, h4⟩
            have ht2 := hid (ht1.out.call hg.out h3)
            replace h4 := hid h4
            have hcv := conv_buf (P := Tryd.prog) Tryd.underlying26 Tryd.underlying5 Tryd.underlying9 ht2.out.buf
            go_wp2_with fail
            go_returns
            exact toldK_some hgo.out ht2.out.save rfl hd2.out.symm h4.out
      · have hne : ¬ a.toNat = 0 := fun e => ha (UInt8.toNat_inj.1 e)
        have hnb : ((a.toNat : Int) == 0) = false := by simp; omega
        have hgo2 := hid (goT_char hgo.out ha)
        go_wp2_with fail
        refine (hbs.out _ _ _ hat.out).mono ?_
        rintro e w1 ⟨rfl, h1, h2⟩
        have ht1 := hid (htx.out.call hg.out h1)
        replace h2 := hid h2
        go_wp2_with (first
          | (at_builtin; (refine wpList_ext_bytes rfl _ _ rfl hP rfl (ht1.out.buf.later (below_new _ _)) [a] w1.heap.size 1 1 rfl rfl (src_new [a] _ rfl rfl) (by have := hcl.out; have := hlim.out; simp only [List.length_singleton]; omega) ?_); intro v' w3 hb3 he3))
        have he4 := (Ext.of_below v (below_new w1 (.cells #[.int .u8 a.toNat] 5))).trans he3
        have ht3 := hid (ht1.out.ext hb3 he4)
        have hk3 := hid (h2.out.ext ht1.out hg.out he4)
        go_roundg (r.length - (c + 1))
        case measure => have := hcl.out; omega
        case rel => exact ⟨c + 1, t ++ [a], v', by have := hcl.out; omega, by simp; omega, rfl, by rw [hd1.out]; exact hgo2, by rw [hd1.out]; exact hk3, ht3⟩
end Go.Proofs.YtihcegakghmdfaaDoor

namespace Go.Proofs.YtihcegakghmdfaaDoor
open Go.RowKit Go.Proofs

theorem info_kfld : (Tryd.prog.info? 50).map (fun i => (i.zero, i.size, i.bytes)) = some (some (.agg #[.string ByteArray.empty, .int .i64 0, .int .i64 0, .string ByteArray.empty, .slice none 0 0, .slice none 0 0]), 6, 96) := by kernel_rfl
/-- A value that was told: its cells lead to memory that came up in the call. -/
def GiveK (B : Nat) (w' : World) (V : PVal) (v : Value) : Prop := ∃ cs, v = .agg cs.toArray ∧ Rd w' (From B w') V cs
theorem rd_atomK {w : World} {S : Nat → Prop} {k n : Int} {s : ByteArray} (hk : I64 k) (hn : I64 n) (hs : s.size ≤ 140737488355328) : Rd w S (.mk k n s [] [] []) [.int .i64 k, .int .i64 n, .string s, .slice none 0 0, .slice none 0 0] :=
  .mk (fun _ => []) (fun _ => []) hk hn hs (by simp) rfl (Nat.le_refl _) (by simp) (Nat.le_refl _) (by simp) (.inl rfl) (fun i x h => by simp at h) (.inl rfl) (fun i x h => by simp at h)

/-- The reader, and the box of the value that is read. -/
structure KS (g : Nat) (w0 : World) (r : List UInt8) (cs : Array Value) (w : World) : Prop where
  at_ : KAt w g r
  row : w.heap[w0.heap.size]? = some (.cells cs 25 (0, 0))
  save : Save g w0 w
  gl : g < w0.heap.size
section
variable {g : Nat} {r : List UInt8} {w0 w : World} {cs : Array Value}
theorem KS.lt (h : KS g w0 r cs w) : w0.heap.size < w.heap.size := (Array.getElem?_eq_some_iff.1 h.row).1
theorem KS.cell (h : KS g w0 r cs w) {j : Nat} {v : Value} (hj : cs[j]? = some v) : w.cell? ⟨w0.heap.size, j, none⟩ = some v := box_at h.row hj
theorem KS.free (h : KS g w0 r cs w) (j : Nat) : w.frozen? ⟨w0.heap.size, j, none⟩ = false := box_free h.row j
theorem KS.call {w' : World} {r' : List UInt8} (h : KS g w0 r cs w) (hs : Save g w w') (ha : KAt w' g r') : KS g w0 r' cs w' :=
  ⟨ha, (hs.block _ h.lt (by have := h.gl; omega)).trans h.row, h.save.trans hs, h.gl⟩
theorem KS.later {w' : World} (h : KS g w0 r cs w) (hb : Below w.heap.size w w') : KS g w0 r cs w' := h.call (Save.of_below hb) (h.at_.later hb)
theorem KS.drew (h : KS g w0 r cs w) : KS g w0 r cs w.drew := h.later (Below.refl _ _).drew
theorem KS.set (h : KS g w0 r cs w) (j : Nat) (u : Value) : KS g w0 r (cs.setIfInBounds j u) (w.setCell ⟨w0.heap.size, j, none⟩ u) := by
  have hs : Below w0.heap.size w (w.setCell ⟨w0.heap.size, j, none⟩ u) := (Below.refl _ _).setCell (p := ⟨w0.heap.size, j, none⟩) (Nat.le_refl _) u
  have hS : Save g w0 (w.setCell ⟨w0.heap.size, j, none⟩ u) := ⟨hs.os.trans h.save.os, hs.tape.trans h.save.tape, hs.output.trans h.save.output, Nat.le_trans h.save.size hs.size, fun k hk hg => (hs.block k hk).trans (h.save.block k hk hg)⟩
  exact ⟨h.at_.keep (fun b hb => hs.block b (by have := h.gl; omega)), row_setCell h.row, hS, h.gl⟩
theorem KS.grow {w' : World} (h : KS g w0 r cs w) (hb : Below (w0.heap.size + 1) w w') : KS g w0 r cs w' := by
  have hg := h.gl
  have hl := h.lt
  exact ⟨h.at_.keep (fun b hk => hb.block b (by omega)), (hb.block _ (by omega)).trans h.row, ⟨hb.os.trans h.save.os, hb.tape.trans h.save.tape, hb.output.trans h.save.output, Nat.le_trans h.save.size hb.size, fun k hk hne => (hb.block k (by omega)).trans (h.save.block k hk hne)⟩, h.gl⟩
theorem rd_apartK {α : Type} {Rl : World → (Nat → Prop) → α → List Value → Prop} {sz e : Nat} {xs : List α} {vs : Value} {wr w6 : World} {X : PVal} {cs6 : List Value} (hr : Rd w6 (From wr.heap.size w6) X cs6) (ho : OwnG Rl sz (w0.heap.size + 1) (w0.heap.size + 1) e wr xs vs) (hl : w0.heap.size < wr.heap.size) (o : Obj) :
    Rd (w6.alloc o) (Apart (w0.heap.size + 1) (w6.alloc o) vs) X cs6 :=
  hr.keep (fun b hb => ⟨by have := hb.1; omega, by have := hb.2; simp; omega, fun e => by have := (ho.lt b e).2; have := hb.1; omega⟩) (fun b hb => (below_new w6 o).block b hb.2)
theorem own_sliceK {α : Type} {Rl : World → (Nat → Prop) → α → List Value → Prop} {sz A B e : Nat} {wr : World} {xs : List α} {vs : Value} (h : OwnG Rl sz A B e wr xs vs) : ∃ a m c, vs = .slice a m c := let ⟨a, c, h, _⟩ := h.form; ⟨a, _, c, h⟩
theorem own_keepK {α : Type} {Rl : World → (Nat → Prop) → α → List Value → Prop} {sz e : Nat} (hR : RowRel Rl sz) {xs : List α} {vs : Value} {wr w6 : World} (ho : OwnG Rl sz (w0.heap.size + 1) (w0.heap.size + 1) e wr xs vs) (hv : KS g w0 r cs wr) (h6 : Save g wr w6) :
    OwnG Rl sz (w0.heap.size + 1) (w0.heap.size + 1) e w6 xs vs :=
  ho.keep hR h6.size (fun b hb => h6.block b (ho.lt b hb).2 (by have := (ho.lt b hb).1; have := hv.gl; omega)) (fun b hb => h6.block b hb.2.1 (by have := hb.1; have := hv.gl; omega))
theorem own_callK {α : Type} {Rl : World → (Nat → Prop) → α → List Value → Prop} {sz e : Nat} (hR : RowRel Rl sz) {xs : List α} {vs : Value} {wr w6 : World} (ho : OwnG Rl sz (w0.heap.size + 1) (w0.heap.size + 1) e wr xs vs) (hv : KS g w0 r cs wr) (h6 : Save g wr w6) (o : Obj) :
    OwnG Rl sz (w0.heap.size + 1) (w0.heap.size + 1) e (w6.alloc o) xs vs := (own_keepK hR ho hv h6).later hR (below_new _ _)
end
theorem ks_new {g : Nat} {r : List UInt8} {w : World} (h : KAt w g r) (cs : Array Value) : KS g w r cs (w.alloc (.cells cs 25)) :=
  ⟨h.later (below_new _ _), heap_alloc_new w _, Save.of_below (below_new _ _), h.lt⟩

def kvE (hv : Nat) (v : Nat → Value) : Act := { tmps := #[v 0, v 1, v 2, v 3, .pointer (some ⟨hv, 0, none⟩), v 5, v 6, v 7, v 8, v 9, v 10, v 11, v 12, v 13, v 14, v 15, v 16, v 17, v 18, v 19, v 20, v 21, v 22, v 23, v 24, v 25, v 26, v 27, v 28, v 29, v 30, v 31, v 32, v 33, v 34, v 35, v 36, v 37, v 38, v 39, v 40, v 41, v 42, v 43, v 44, v 45, v 46, v 47, v 48, v 49, v 50, v 51, v 52, v 53, v 54, v 55, v 56, v 57, v 58, v 59, v 60, v 61, v 62, v 63, v 64, v 65, v 66, v 67, v 68, v 69, v 70, v 71, v 72, v 73, v 74, v 75, v 76, v 77, v 78], defers := [] }
theorem kvE_mk {a : Act} (hv : Nat) (h : kvE hv (fun i => a.tmps.getD i undef) = a) : ∃ v, a = kvE hv v := ⟨_, h.symm⟩
def kvF (g d hv : Nat) (v : Nat → Value) : Act := { tmps := #[.pointer (some ⟨g, 0, none⟩), .int .i64 (d : Int), v 2, v 3, .pointer (some ⟨hv, 0, none⟩), .int .u64 0, v 6, v 7, v 8, v 9, v 10, v 11, v 12, v 13, v 14, v 15, v 16, v 17, v 18, v 19, v 20, v 21, v 22, v 23, v 24, v 25, v 26, v 27, v 28, v 29, v 30, v 31, v 32, v 33, v 34, v 35, v 36, v 37, v 38, v 39, v 40, v 41, v 42, v 43, v 44, v 45, v 46, v 47, v 48, v 49, v 50, v 51, v 52, v 53, v 54, v 55, v 56, v 57, v 58, v 59, v 60, v 61, v 62, v 63, v 64, v 65, v 66, v 67, v 68, v 69, v 70, v 71, v 72, v 73, v 74, v 75, v 76, v 77, v 78], defers := [] }
theorem kvF_mk {a : Act} (g d hv : Nat) (h : kvF g d hv (fun i => a.tmps.getD i undef) = a) : ∃ v, a = kvF g d hv v := ⟨_, h.symm⟩
def listG : Option (List PVal × Nat) → Option (PVal × Nat)
  | none => none
  | some (xs, c) => some (.mk 5 0 ByteArray.empty xs [] [], 1 + c)
def fieldsG : Option ((List ByteArray × List PVal) × Nat) → Option (PVal × Nat)
  | none => none
  | some ((fn, fv), c) => some (.mk 6 0 ByteArray.empty [] fn fv, 1 + c)
def numG (S : List UInt8) : Option (PVal × Nat) := if S.length < 8 then none else some (.mk 3 ((of8 (S.take 8) : Int) - 9223372036854775808) ByteArray.empty [] [] [], 9)
/-- What holds at each label. -/
def KeyJ (g d : Nat) (r0 : List UInt8) (w0 : World) (p : List UInt8 → Option (PVal × Nat)) (R : Option (PVal × Nat)) (n lab : Nat) (a : Act) (w : World) : Prop :=
  ∃ (v : Nat → Value),
    ((lab = 0 ∧ n = 0 ∧ (∃ v, a = kvE w0.heap.size v) ∧ ∃ V c cs, R = some (V, c) ∧ Rd w (From (w0.heap.size + 1) w) V cs ∧ KS g w0 (r0.drop c) cs.toArray w) ∨
     (lab = 1 ∧ n = 1 ∧ a = kvF g d w0.heap.size v ∧ R = numG (r0.drop 1) ∧ KS g w0 (r0.drop 1) #[.int .i64 3, .int .i64 0, .string ⟨#[]⟩, .slice none 0 0, .slice none 0 0] w) ∨
     (lab = 2 ∧ a = kvF g d w0.heap.size v ∧ ∃ f xs c vs G, n = (r0.drop (1 + c)).length + 1 ∧ (r0.drop (1 + c)).length ≤ f ∧ xs.length ≤ c ∧ R = listG G ∧ GoL G xs c (listK false p (f + 1) (r0.drop (1 + c))) ∧ KS g w0 (r0.drop (1 + c)) #[.int .i64 5, .int .i64 0, .string ⟨#[]⟩, vs, .slice none 0 0] w ∧ OwnG Rd 5 (w0.heap.size + 1) (w0.heap.size + 1) 25 w xs vs) ∨
     (lab = 3 ∧ a = kvF g d w0.heap.size v ∧ ∃ f fs c vs G, n = (r0.drop (1 + c)).length + 1 ∧ (r0.drop (1 + c)).length ≤ f ∧ fs.length ≤ c ∧ R = fieldsG G ∧ GoF G fs c (fieldsK false p (f + 1) (r0.drop (1 + c))) ∧ KS g w0 (r0.drop (1 + c)) #[.int .i64 6, .int .i64 0, .string ⟨#[]⟩, .slice none 0 0, vs] w ∧ OwnG RdFl 6 (w0.heap.size + 1) (w0.heap.size + 1) 50 w fs vs))

theorem of8_succ {S : List UInt8} {j : Nat} {b : UInt8} (h : S[j]? = some b) : of8 (S.take (j + 1)) = of8 (S.take j) * 256 + b.toNat := by
  rw [take_succ_of h]
  unfold of8
  rw [List.foldl_append]
  rfl
theorem of8_bound (l : List UInt8) : of8 l < 256 ^ l.length := by
  have key : ∀ (l : List UInt8) (a k : Nat), a < 256 ^ k → l.foldl (fun a b => a * 256 + b.toNat) a < 256 ^ (k + l.length) := by
    intro l
    induction l with
    | nil => intro a k h; simpa using h
    | cons b t ih =>
      intro a k h
      have := b.toNat_lt
      have h2 := ih (a * 256 + b.toNat) (k + 1) (by rw [Nat.pow_succ]; omega)
      rw [List.length_cons, show k + (t.length + 1) = k + 1 + t.length by omega]
      exact h2
  have := key l 0 0 (by simp)
  simpa [of8] using this
theorem or_low {n b : Nat} (hn : n < 72057594037927936) (hb : b < 256) : bits .or .u64 (((n * 256 : Nat) : Int)) (b : Int) = ((n * 256 + b : Nat) : Int) := by
  show IntKind.u64.wrap ((BitVec.ofInt 64 ((n * 256 : Nat) : Int) ||| BitVec.ofInt 64 (b : Int)).toNat : Int) = _
  rw [BitVec.toNat_or, BitVec.ofInt_natCast, BitVec.ofInt_natCast, BitVec.toNat_ofNat, BitVec.toNat_ofNat, Nat.mod_eq_of_lt (by omega), Nat.mod_eq_of_lt (by omega)]
  have h1 := Nat.shiftLeft_add_eq_or_of_lt (a := n) (b := b) (i := 8) (by omega)
  rw [Nat.shiftLeft_eq] at h1
  rw [show n * 256 = n * 2 ^ 8 from rfl, ← h1, IntKind.wrap_u64]
  omega
theorem xor_back8 {n : Nat} (h : n < 18446744073709551616) : IntKind.i64.wrap (bits .xor .u64 (n : Int) 9223372036854775808) = (n : Int) - 9223372036854775808 := by
  show IntKind.i64.wrap (IntKind.u64.wrap ((BitVec.ofInt 64 (n : Int) ^^^ BitVec.ofInt 64 9223372036854775808).toNat : Int)) = _
  rw [BitVec.toNat_xor, BitVec.ofInt_natCast, BitVec.toNat_ofNat, show (BitVec.ofInt 64 9223372036854775808).toNat = 2 ^ 63 from rfl, Nat.mod_eq_of_lt (by omega), IntKind.wrap_u64, IntKind.wrap_i64]
  by_cases h0 : n < 2 ^ 63
  · rw [xor_low h0]; omega
  · obtain ⟨c, rfl⟩ : ∃ c, n = 2 ^ 63 + c := ⟨n - 2 ^ 63, by omega⟩
    rw [xor_high (by omega)]; omega

set_option maxRecDepth 100000 in
set_option maxHeartbeats 8000000 in
theorem kvalue_walk (d : Nat) (hd : d ≤ 8) {g : Nat} (p : List UInt8 → Option (PVal × Nat)) (ih : ∀ (w : World) (r : List UInt8), KAt w g r → r.length ≤ 1099511627776 →
      Calls Tryd.prog 83 #[.pointer (some ⟨g, 0, none⟩), .int .i64 ((d : Int) - 1)] w (ToldK (p r) (GiveK w.heap.size) w g r))
    {w : World} {r : List UInt8} (h : KAt w g r) (hlen : r.length ≤ 1099511627776) (R : Option (PVal × Nat)) (hR : R = headK false p r) :
    Calls Tryd.prog 83 #[.pointer (some ⟨g, 0, none⟩), .int .i64 d] w (ToldK R (GiveK w.heap.size) w g r) := by
  have h0 := hid h
  replace hR := hid hR
  replace ih := hid ih
  have hbs := hid (fun (w : World) (d : UInt8) (r : List UInt8) (h : KAt w g (d :: r)) => kbyte_some h)
  have hbn := hid (fun (w : World) (h : KAt w g []) => kbyte_none h)
  have htx := hid (fun (w : World) (r : List UInt8) (h : KAt w g r) => ktext_calls h)
  have hmy := hid kmust_yes
  have hmn := hid kmust_no
  have hdl : ∀ c, (r.drop c).length ≤ 1099511627776 := fun c => by rw [List.length_drop]; omega
  replace hdl := hid hdl
  have e9 : IntKind.i64.wrap ((d : Int) - 1) = (d : Int) - 1 := IntWalk.i64_in _ (by omega)
  have d0 : decide (0 ≤ (d : Int)) = true := decide_eq_true (by omega)
  go_enter Tryd.func83, Tryd.ntmps83
  go_wp2_with fail
  refine wp_scope_falls (KeyJ g d r w p R) ?_ ?_
  · rintro n lab a' w' ⟨v, (⟨rfl, rfl, hJ⟩ | ⟨rfl, rfl, rfl, hRR, hvs⟩ | ⟨rfl, rfl, f, xs, c, vs, G, hn, hf, hxl, hRR, hgo, hvs, hown⟩ | ⟨rfl, rfl, f, fs, c, vs, G, hn, hf, hxl, hRR, hgo, hvs, hown⟩)⟩ low
    all_goals replace low := hid low
    · refine ⟨_, rfl, ?_⟩
      obtain ⟨⟨v, rfl⟩, V, c, cs, hRR, hrd, hvs⟩ := hJ
      simp only [kvE]
      obtain ⟨kk, kn, ks, kl, kfn, kfv⟩ := V
      obtain ⟨la, lc, fa, fc, rfl, _⟩ := hrd.inv
      have c0 := hvs.cell (j := 0) rfl
      have c1 := hvs.cell (j := 1) rfl
      have c2 := hvs.cell (j := 2) rfl
      have c3 := hvs.cell (j := 3) rfl
      have c4 := hvs.cell (j := 4) rfl
      have f0 := hvs.free 0
      have f1 := hvs.free 1
      have f2 := hvs.free 2
      have f3 := hvs.free 3
      have f4 := hvs.free 4
      replace hRR := hid hRR
      replace hrd := hid hrd
      have hvs5 := hid (((((hvs.set 0 (.int .i64 kk)).set 1 (.int .i64 kn)).set 2 (.string ks)).set 3 (.slice la kl.length lc)).set 4 (.slice fa kfv.length fc))
      have hrd5 : Hid (Rd (set5 w' w.heap.size (.int .i64 kk) (.int .i64 kn) (.string ks) (.slice la kl.length lc) (.slice fa kfv.length fc)) (From w.heap.size (set5 w' w.heap.size (.int .i64 kk) (.int .i64 kn) (.string ks) (.slice la kl.length lc) (.slice fa kfv.length fc))) (.mk kk kn ks kl kfn kfv) [.int .i64 kk, .int .i64 kn, .string ks, .slice la kl.length lc, .slice fa kfv.length fc]) :=
        hrd.out.keep (fun b hb => ⟨by have := hb.1; omega, by rw [set5_size]; exact hb.2⟩) (fun b hb => set5_other _ _ _ _ _ _ _ (by have := hb.1; omega))
      unfold set5 at hrd5
      replace hvs := hid hvs
      go_wp2_with fail
      generalize ((((w'.setCell { block := w.heap.size, off := 0 } (Value.int IntKind.i64 kk)).setCell { block := w.heap.size, off := 1 } (Value.int IntKind.i64 kn)).setCell { block := w.heap.size, off := 2 } (.string ks)).setCell { block := w.heap.size, off := 3 } (.slice la kl.length lc)).setCell { block := w.heap.size, off := 4 } (.slice fa kfv.length fc) = w7 at *
      replace hvs5 : Hid (KS g w (r.drop c) #[.int .i64 kk, .int .i64 kn, .string ks, .slice la kl.length lc, .slice fa kfv.length fc] w7) := hvs5
      clear c0 c1 c2 c3 c4
      have c0 := hvs5.out.cell (j := 0) rfl
      have c1 := hvs5.out.cell (j := 1) rfl
      have c2 := hvs5.out.cell (j := 2) rfl
      have c3 := hvs5.out.cell (j := 3) rfl
      have c4 := hvs5.out.cell (j := 4) rfl
      refine ⟨rfl, .agg #[.int .i64 kk, .int .i64 kn, .string ks, .slice la kl.length lc, .slice fa kfv.length fc], by simp [results, Tryd.results83, go_sem, c0, c1, c2, c3, c4], ?_⟩
      exact toldK_some hRR.out hvs5.out.save ⟨_, rfl, hrd5.out⟩ rfl hvs5.out.at_
    · refine ⟨_, rfl, ?_⟩
      simp only [kvF]
      obtain ⟨S, hS⟩ : ∃ S, S = r.drop 1 := ⟨_, rfl⟩
      have hS9 : Hid (∀ j, S.drop j = r.drop (1 + j)) := fun j => by rw [hS, List.drop_drop]
      rw [← hS] at hvs hRR
      replace hRR := hid hRR
      replace hvs := hid hvs
      clear hS
      go_wp2_with fail
      go_loopg [5, 37] 8 (fun gh s5 s37 wr => ∃ (j : Nat), gh + j = 8 ∧ j ≤ S.length ∧ s37 = .int .i64 j ∧ s5 = .int .u64 (of8 (S.take j) : Nat) ∧ Hid (KS g w (S.drop j) #[.int .i64 3, .int .i64 0, .string ⟨#[]⟩, .slice none 0 0, .slice none 0 0] wr))
      case atStart => exact ⟨0, by omega, by omega, rfl, rfl, hvs⟩
      case round =>
        clear hvs
        obtain ⟨j, hj, hjl, rfl, rfl, hvs⟩ := hrel
        have hb8 := of8_bound (S.take j)
        rw [List.length_take, Nat.min_eq_left hjl] at hb8
        by_cases hlt : j < 8
        · have hb56 : of8 (S.take j) < 72057594037927936 := Nat.lt_of_lt_of_le hb8 (Nat.le_trans (Nat.pow_le_pow_right (by omega) (by omega : j ≤ 7)) (by decide))
          clear hb8
          cases hd : S.drop j with
          | nil =>
            have hno : Hid (R = none) := by
              show _ = _
              have := congrArg List.length hd
              rw [List.length_drop, List.length_nil] at this
              rw [hRR.out, numG, if_pos (by omega)]
            rw [hd] at hvs
            generalize of8 (S.take j) = N at *
            go_wp2_with fail
            refine (hbn.out _ hvs.out.at_).mono ?_
            rintro e w1 ⟨rfl, h1⟩
            go_wp2_with fail
            rw [jumps_panic]
            exact ⟨rfl, toldK_none hno.out (hvs.out.save.trans h1)⟩
          | cons b t =>
            have hjl2 : j < S.length := by
              have := congrArg List.length hd
              rw [List.length_drop, List.length_cons] at this
              omega
            have hb : S[j]? = some b := by
              have := congrArg List.head? hd
              rw [List.head?_drop] at this
              simpa using this
            have h8 := hid (of8_succ hb)
            have hd1 : Hid (S.drop (j + 1) = t) := by show _ = _; rw [← List.drop_drop, hd]; rfl
            rw [hd] at hvs
            have hor := or_low hb56 b.toNat_lt
            have hbt := b.toNat_lt
            clear hd hb
            generalize of8 (S.take j) = N at *
            have e1 : IntKind.u64.wrap ((b.toNat : Int)) = b.toNat := by rw [IntKind.wrap_u64]; omega
            have e2 : IntKind.u64.wrap ((N : Int) * 256) = ((N * 256 : Nat) : Int) := by rw [IntKind.wrap_u64]; omega
            go_wp2_with fail
            refine (hbs.out _ _ _ hvs.out.at_).mono ?_
            rintro e w1 ⟨rfl, h1, h2⟩
            have hv1 := hid (hvs.out.call h1 h2)
            go_wp2_with fail
            go_roundg (8 - (j + 1))
            case measure => omega
            case rel => exact ⟨j + 1, by omega, by omega, by go_num, by rw [h8.out]; exact congrArg (Value.int .u64) hor, by rw [hd1.out]; exact hv1⟩
        · obtain rfl : j = 8 := by omega
          have hno : Hid (R = some (.mk 3 ((of8 (S.take 8) : Int) - 9223372036854775808) ByteArray.empty [] [] [], 9)) := by
            show _ = _
            rw [hRR.out, numG, if_neg (by omega)]
          have hxb := xor_back8 (n := of8 (S.take 8)) (by simpa using hb8)
          have hNI : Hid (I64 ((of8 (S.take 8) : Int) - 9223372036854775808)) := by show I64 _; have h1 : of8 (S.take 8) < 18446744073709551616 := by simpa using hb8
                                                                                    unfold I64; omega
          clear hb8
          generalize of8 (S.take 8) = N at *
          have c1 : wr.cell? ⟨w.heap.size, 1, none⟩ = some (.int .i64 0) := hvs.out.cell (j := 1) rfl
          have fz := hvs.out.free 1
          go_wp2_with fail
          have hv4 := hid (hvs.out.set 1 (.int .i64 ((N : Int) - 9223372036854775808)))
          clear c1 fz
          generalize wr.setCell ⟨w.heap.size, 1, none⟩ (.int .i64 ((N : Int) - 9223372036854775808)) = w4 at *
          replace hv4 : Hid (KS g w (S.drop 8) #[.int .i64 3, .int .i64 ((N : Int) - 9223372036854775808), .string ⟨#[]⟩, .slice none 0 0, .slice none 0 0] w4) := hv4
          go_step3
          exact ⟨0, by omega, fun _ => undef, .inl ⟨rfl, rfl, kvE_mk _ rfl, _, _, _, hno.out, rd_atomK ⟨by decide, by decide⟩ hNI.out (by decide), by rw [show 9 = 1 + 8 from rfl, ← hS9.out]; exact hv4.out⟩⟩
    · refine ⟨_, rfl, ?_⟩
      simp only [kvF]
      obtain ⟨i0, hi, hz0, hz1, hz2⟩ := info_parts info52
      have hvr := hid hvs
      replace hown := hid hown
      replace hRR := hid hRR
      replace hgo := hid hgo
      have hdc := hid (hdl.out (1 + c))
      have hrl : Hid (c < r.length ∨ r.drop (1 + c) = []) := by
        show _ ∨ _
        by_cases h : c < r.length
        · exact .inl h
        · exact .inr (List.drop_eq_nil_of_le (by omega))
      clear hvs
      cases hd : r.drop (1 + c) with
      | nil =>
        rw [hd] at hgo hvr
        have hno : Hid (R = none) := by show _ = _; rw [hRR.out, goL_nil hgo.out]; rfl
        clear hgo
        go_wp2_with fail
        refine (hbn.out _ hvr.out.at_).mono ?_
        rintro e w1 ⟨rfl, h1⟩
        go_wp2_with fail
        rw [jumps_panic]
        exact ⟨rfl, toldK_none hno.out (hvr.out.save.trans h1)⟩
      | cons a t =>
        have hcl : Hid (c < r.length) := by
          rcases hrl.out with h | h
          · exact h
          · rw [hd] at h; cases h
        have hd1 : Hid (∀ k, r.drop (1 + (c + 1 + k)) = t.drop k) := fun k => by
          rw [show 1 + (c + 1 + k) = 1 + c + (1 + k) by omega, ← List.drop_drop, hd, Nat.add_comm, List.drop_succ_cons]
        rw [hd] at hgo hvr hf hn hdc
        rw [List.length_cons] at hf hn hdc
        have hbb := hid (hbs.out _ _ _ hvr.out.at_)
        clear hd
        by_cases ha : a = 0
        · subst ha
          have hG := goL_end hgo.out rfl
          have hyes : Hid (R = some (.mk 5 0 ByteArray.empty xs [] [], 1 + (c + 1))) := by show _ = _; rw [hRR.out, hG]; rfl
          have hcn := hcl.out
          clear hgo hG
          go_wp2_with fail
          refine hbb.out.mono ?_
          rintro e w1 ⟨rfl, h1, h2⟩
          have hv1 := hid (hvr.out.call h1 h2)
          have hown1 := hid (own_keepK valRel hown.out hvr.out h1)
          go_wp2_with fail
          go_step3
          exact ⟨0, by omega, fun _ => undef, .inl ⟨rfl, rfl, kvE_mk _ rfl, _, _, _, hyes.out, rd_mk ⟨by decide, by decide⟩ ⟨by decide, by decide⟩ (by decide) (hown1.out.readL (fun b hb => hown1.out.lt b hb) (fun b hb => ⟨hb.1, hb.2.1⟩) (by omega)) rdF_nil, by rw [show 1 + (c + 1) = 1 + (c + 1 + 0) from rfl, hd1.out 0]; exact hv1.out⟩⟩
        · have hne : ¬ a.toNat = 0 := fun e => ha (UInt8.toNat_inj.1 e)
          have hnb : ((a.toNat : Int) != 0) = true := by simp; omega
          obtain ⟨f', rfl⟩ : ∃ f', f = f' + 1 := ⟨f - 1, by omega⟩
          have hst := goL_step hgo.out ha
          clear hgo
          go_wp2_with fail
          refine hbb.out.mono ?_
          rintro e w1 ⟨rfl, h1, h2⟩
          have hv1 := hid (hvr.out.call h1 h2)
          have hown1 := hid (own_keepK valRel hown.out hvr.out h1)
          have hc := ih.out w1.drew _ hv1.out.drew.at_ (by have := hdc.out; omega)
          have c3 : w1.cell? ⟨w.heap.size, 3, none⟩ = some vs := hv1.out.cell (j := 3) rfl
          cases hp : p t with
          | none =>
            rw [hp] at hst hc
            have hno : Hid (R = none) := by show _ = _; rw [hRR.out, hst]; rfl
            replace hc := hid hc
            clear hp hst
            go_upto_region 20 with fail
            refine wp_region_any (by kernel_rfl) ?_
            change wpAny _ _ _ _ _ _ _ (World.drew _)
            refine wpAny_take (i := 0) (v := ?_) rfl (by kernel_rfl) (by kernel_rfl) (by kernel_rfl) (by exact fun _ _ _ h => h) (Or.inl ⟨by rfl, ?_⟩) ?_
            rotate_left 1
            focus (intro w; go_simp; try with_reducible rfl)
            try simp only [Act.put, List.setIfInBounds_toArray]
            refine wpAny_take (i := 2) (v := ?_) rfl (by kernel_rfl) (by kernel_rfl) (by kernel_rfl) (by exact fun _ _ _ h => h) (Or.inl ⟨by rfl, ?_⟩) ?_
            rotate_left 1
            focus (intro w; go_simp; try with_reducible rfl)
            try simp only [Act.put]
            refine wpAny_take (i := 3) (v := ?_) rfl (by kernel_rfl) (by kernel_rfl) (by kernel_rfl) (by exact fun _ _ _ h => h) (Or.inl ⟨by rfl, ?_⟩) ?_
            rotate_left 1
            focus (intro w; go_simp; try with_reducible rfl)
            try simp only [Act.put]
            refine wpAny_take (i := 4) (v := ?_) rfl (by kernel_rfl) (by kernel_rfl) (by kernel_rfl) (by exact fun _ _ _ h => h) (Or.inl ⟨by rfl, ?_⟩) ?_
            rotate_left 1
            focus (intro w; go_simp; try with_reducible rfl)
            try simp only [Act.put]
            refine wpAny_ready (rs := [1, 5]) (by kernel_rfl) (by simp) ?_
            refine AllReady.cons rfl (fun K hK => ?_) (AllReady.cons rfl (fun K hK => ?_) AllReady.nil)
            · go_simp
              refine hK _ _ ?_
              clear hK K
              refine wpAny_ready (rs := [5]) (by kernel_rfl) (by simp) ?_
              refine AllReady.cons rfl (fun K hK => ?_) AllReady.nil
              go_simp
              refine hc.out.mono ?_
              rintro e w6 ⟨h6, rfl⟩
              go_wp2_with fail
              rw [jumps_panic]
              exact ⟨rfl, toldK_none hno.out (hv1.out.drew.save.trans h6)⟩
            · go_simp
              refine hc.out.mono ?_
              rintro e w6 ⟨h6, rfl⟩
              go_wp2_with fail
              rw [jumps_panic]
              exact ⟨rfl, toldK_none hno.out (hv1.out.drew.save.trans h6)⟩
          | some q =>
            obtain ⟨x, k⟩ := q
            rw [hp] at hst hc
            replace hst := hid hst
            replace hc := hid hc
            clear hp
            obtain ⟨xk, xn, xt, xl, xfn, xfv⟩ := x
            go_upto_region 20 with fail
            go_region_law (first
                | (go_simp; go_at_call 83
                   refine hc.out.mono ?_
                   rintro e w6 ⟨h6, v6, rfl, ⟨cs6, rfl, hr6⟩, h7⟩
                   obtain ⟨ya, yc, za, zc, rfl, _⟩ := hr6.inv
                   have hv6 := hid (hv1.out.drew.call h6 h7)
                   have hv7 := hid (hv6.out.later (below_new w6 (.cells #[.int .i64 xk, .int .i64 xn, .string xt, .slice ya xl.length yc, .slice za xfv.length zc] 25)))
                   have hown6 := hid (own_callK valRel (hown1.out.later valRel (Below.refl _ _).drew) hv1.out.drew h6 (.cells #[.int .i64 xk, .int .i64 xn, .string xt, .slice ya xl.length yc, .slice za xfv.length zc] 25))
                   have hX6 := hid (rd_apartK hr6 (hown1.out.later valRel (Below.refl _ _).drew) hv1.out.lt (.cells #[.int .i64 xk, .int .i64 xn, .string xt, .slice ya xl.length yc, .slice za xfv.length zc] 25))
                   have hB6 := hid hv7.out.lt
                   have c3 : w6.cell? ⟨w.heap.size, 3, none⟩ = some vs := hv6.out.cell (j := 3) rfl
                   have c3a : (w6.alloc (.cells #[.int .i64 xk, .int .i64 xn, .string xt, .slice ya xl.length yc, .slice za xfv.length zc] 25)).cell? ⟨w.heap.size, 3, none⟩ = some vs := hv7.out.cell (j := 3) rfl)
                | (refine step_append_g valRel _ rfl _ _ 22 rfl (w.heap.size + 1) (w.heap.size + 1) 25 80 i0 _ Tryd.underlying22 hi hz0 hz1 hz2 rfl (by decide) xs vs rfl hown6.out ⟨w6.heap.size, 0, none⟩ 1 [.int .i64 xk, .int .i64 xn, .string xt, .slice ya xl.length yc, .slice za xfv.length zc] (.mk xk xn xt xl xfn xfv) rfl (cells_new _ _ rfl _ _) hX6.out (by have := hcl.out; omega) (by have := hcl.out; unfold maxLen; omega) hB6.out ?_
                   intro v8 w8 hown8 hg8 hlow8 hst8
                   obtain ⟨a8, m8, n8, rfl⟩ := own_sliceK hown8
                   have hv8 := hid (hv7.out.grow (grown_from hown6.out hg8 hB6.out))
                   have c3 : w8.cell? ⟨w.heap.size, 3, none⟩ = some vs := hv8.out.cell (j := 3) rfl
                   have fz := hv8.out.free 3))
            all_goals (have hv9 := hid (hv8.out.set 3 (.slice a8 m8 n8))
                       have ho9 := hid (hown8.box valRel ⟨w.heap.size, 3, none⟩ (.slice a8 m8 n8) (fun e => absurd (hown8.lt _ e).1 (by show ¬ (w.heap.size + 1 ≤ w.heap.size); omega)) (by show w.heap.size < w.heap.size + 1; omega))
                       generalize w8.setCell ⟨w.heap.size, 3, none⟩ (.slice a8 m8 n8) = w9 at *
                       replace hv9 : Hid (KS g w (t.drop k) #[.int .i64 5, .int .i64 0, .string ⟨#[]⟩, .slice a8 m8 n8, .slice none 0 0] w9) := hv9
                       go_wp2_with fail
                       go_step3
                       exact ⟨_, by rw [hn]; exact Nat.succ_lt_succ (Nat.lt_succ_of_le (by rw [hd1.out k, List.length_drop]; omega)), _, .inr (.inr (.inl ⟨rfl, (kvF_mk g d _ rfl).choose_spec, f', _, c + 1 + k, .slice a8 m8 n8, _, rfl, by rw [hd1.out k, List.length_drop]; omega, by simp; omega, hRR.out, by rw [hd1.out k]; exact hst.out, by rw [hd1.out k]; exact hv9.out, ho9.out⟩))⟩)
    · refine ⟨_, rfl, ?_⟩
      simp only [kvF]
      obtain ⟨i0, hi, hz0, hz1, hz2⟩ := info_parts info_kfld
      have hvr := hid hvs
      replace hown := hid hown
      replace hRR := hid hRR
      replace hgo := hid hgo
      have hdc := hid (hdl.out (1 + c))
      have hrl : Hid (c < r.length ∨ r.drop (1 + c) = []) := by
        show _ ∨ _
        by_cases h : c < r.length
        · exact .inl h
        · exact .inr (List.drop_eq_nil_of_le (by omega))
      clear hvs
      cases hd : r.drop (1 + c) with
      | nil =>
        rw [hd] at hgo hvr
        have hno : Hid (R = none) := by show _ = _; rw [hRR.out, goF_nil hgo.out]; rfl
        clear hgo
        go_wp2_with fail
        refine (hbn.out _ hvr.out.at_).mono ?_
        rintro e w1 ⟨rfl, h1⟩
        go_wp2_with fail
        rw [jumps_panic]
        exact ⟨rfl, toldK_none hno.out (hvr.out.save.trans h1)⟩
      | cons a t =>
        have hcl : Hid (c < r.length) := by
          rcases hrl.out with h | h
          · exact h
          · rw [hd] at h; cases h
        have hd1 : Hid (∀ k, r.drop (1 + (c + 1 + k)) = t.drop k) := fun k => by
          rw [show 1 + (c + 1 + k) = 1 + c + (1 + k) by omega, ← List.drop_drop, hd, Nat.add_comm, List.drop_succ_cons]
        rw [hd] at hgo hvr hf hn hdc
        rw [List.length_cons] at hf hn hdc
        have hbb := hid (hbs.out _ _ _ hvr.out.at_)
        clear hd
        by_cases ha : a = 0
        · subst ha
          have hG := goF_end hgo.out rfl
          have hyes : Hid (R = some (.mk 6 0 ByteArray.empty [] (fs.map Prod.fst) (fs.map Prod.snd), 1 + (c + 1))) := by show _ = _; rw [hRR.out, hG]; rfl
          have hcn := hcl.out
          clear hgo hG
          go_wp2_with fail
          refine hbb.out.mono ?_
          rintro e w1 ⟨rfl, h1, h2⟩
          have hv1 := hid (hvr.out.call h1 h2)
          have hown1 := hid (own_keepK fldRel hown.out hvr.out h1)
          go_wp2_with fail
          go_step3
          rename_i K hK
          refine hK _ _ (pass_use rfl (low.out 0 0 _ _ (by omega) ⟨fun _ => undef, .inl ⟨rfl, rfl, kvE_mk _ rfl, _, _, _, hyes.out, rd_mk ⟨by decide, by decide⟩ ⟨by decide, by decide⟩ (by decide) rdL_nil (hown1.out.readF (fun b hb => hown1.out.lt b hb) (fun b hb => ⟨hb.1, hb.2.1⟩) (by omega)), by rw [show 1 + (c + 1) = 1 + (c + 1 + 0) from rfl, hd1.out 0]; exact hv1.out⟩⟩))
        · have hne : ¬ a.toNat = 0 := fun e => ha (UInt8.toNat_inj.1 e)
          have hnb : ((a.toNat : Int) != 0) = true := by simp; omega
          obtain ⟨f', rfl⟩ : ∃ f', f = f' + 1 := ⟨f - 1, by omega⟩
          have hst := goF_step hgo.out ha
          clear hgo
          go_wp2_with fail
          refine hbb.out.mono ?_
          rintro e w1 ⟨rfl, h1, h2⟩
          have hv1 := hid (hvr.out.call h1 h2)
          have hown1 := hid (own_keepK fldRel hown.out hvr.out h1)
          have htt := htx.out _ _ hv1.out.at_
          cases hT : txtK false t with
          | none =>
            rw [hT] at hst htt
            have hno : Hid (R = none) := by show _ = _; rw [hRR.out, hst]; rfl
            replace htt := hid htt
            clear hT hst
            go_wp2_with fail
            refine htt.out.mono ?_
            rintro e w2 ⟨h3, rfl⟩
            go_wp2_with fail
            rw [jumps_panic]
            exact ⟨rfl, toldK_none hno.out (hv1.out.save.trans h3)⟩
          | some q =>
            obtain ⟨nm, i⟩ := q
            have htl := txtK_le false _ _ _ hT
            have hns : Hid ((⟨nm.toArray⟩ : ByteArray).size ≤ 140737488355328) := by
              show _ ≤ _
              have h1 : (⟨nm.toArray⟩ : ByteArray).size = nm.length := by simp [ByteArray.size]
              have h2 := hdc.out
              omega
            rw [hT] at hst htt
            simp only at hst
            replace htt := hid htt
            clear hT htl
            go_wp2_with fail
            refine htt.out.mono ?_
            rintro e w2 ⟨h3, v3, rfl, rfl, h4⟩
            have hvn := hid (hv1.out.call h3 h4)
            have hownn := hid (own_keepK fldRel hown1.out hv1.out h3)
            have hc := ih.out w2.drew _ hvn.out.drew.at_ (by have := hdc.out; rw [List.length_drop]; omega)
            have c4 : w2.cell? ⟨w.heap.size, 4, none⟩ = some vs := hvn.out.cell (j := 4) rfl
            cases hp : p (t.drop i) with
            | none =>
              rw [hp] at hst hc
              have hno : Hid (R = none) := by show _ = _; rw [hRR.out, hst]; rfl
              replace hc := hid hc
              clear hp hst
              go_upto_region 23 with fail
              refine wp_region_any (by kernel_rfl) ?_
              change wpAny _ _ _ _ _ _ _ (World.drew _)
              refine wpAny_take (i := 0) (v := ?_) rfl (by kernel_rfl) (by kernel_rfl) (by kernel_rfl) (by exact fun _ _ _ h => h) (Or.inl ⟨by rfl, ?_⟩) ?_
              rotate_left 1
              focus (intro w; go_simp; try with_reducible rfl)
              try simp only [Act.put, List.setIfInBounds_toArray]
              refine wpAny_take (i := 2) (v := ?_) rfl (by kernel_rfl) (by kernel_rfl) (by kernel_rfl) (by exact fun _ _ _ h => h) (Or.inl ⟨by rfl, ?_⟩) ?_
              rotate_left 1
              focus (intro w; go_simp; try with_reducible rfl)
              try simp only [Act.put]
              refine wpAny_take (i := 3) (v := ?_) rfl (by kernel_rfl) (by kernel_rfl) (by kernel_rfl) (by exact fun _ _ _ h => h) (Or.inl ⟨by rfl, ?_⟩) ?_
              rotate_left 1
              focus (intro w; go_simp; try with_reducible rfl)
              try simp only [Act.put]
              refine wpAny_take (i := 4) (v := ?_) rfl (by kernel_rfl) (by kernel_rfl) (by kernel_rfl) (by exact fun _ _ _ h => h) (Or.inl ⟨by rfl, ?_⟩) ?_
              rotate_left 1
              focus (intro w; go_simp; try with_reducible rfl)
              try simp only [Act.put]
              refine wpAny_take (i := 5) (v := ?_) rfl (by kernel_rfl) (by kernel_rfl) (by kernel_rfl) (by exact fun _ _ _ h => h) (Or.inl ⟨by rfl, ?_⟩) ?_
              rotate_left 1
              focus (intro w; go_simp; try with_reducible rfl)
              try simp only [Act.put]
              refine wpAny_ready (rs := [1, 6]) (by kernel_rfl) (by simp) ?_
              refine AllReady.cons rfl (fun K hK => ?_) (AllReady.cons rfl (fun K hK => ?_) AllReady.nil)
              · go_simp
                refine hK _ _ ?_
                clear hK K
                refine wpAny_ready (rs := [6]) (by kernel_rfl) (by simp) ?_
                refine AllReady.cons rfl (fun K hK => ?_) AllReady.nil
                go_simp
                refine hc.out.mono ?_
                rintro e w6 ⟨h6, rfl⟩
                go_wp2_with fail
                rw [jumps_panic]
                exact ⟨rfl, toldK_none hno.out (hvn.out.drew.save.trans h6)⟩
              · go_simp
                refine hc.out.mono ?_
                rintro e w6 ⟨h6, rfl⟩
                go_wp2_with fail
                rw [jumps_panic]
                exact ⟨rfl, toldK_none hno.out (hvn.out.drew.save.trans h6)⟩
            | some q =>
              obtain ⟨x, k⟩ := q
              rw [hp] at hst hc
              simp only at hst
              replace hst := hid hst
              replace hc := hid hc
              clear hp
              obtain ⟨xk, xn, xt, xl, xfn, xfv⟩ := x
              go_upto_region 23 with fail
              go_region_law (first
                  | (go_simp; go_at_call 83
                     refine hc.out.mono ?_
                     rintro e w6 ⟨h6, v6, rfl, ⟨cs6, rfl, hr6⟩, h7⟩
                     obtain ⟨ya, yc, za, zc, rfl, _⟩ := hr6.inv
                     have hv6 := hid (hvn.out.drew.call h6 h7)
                     have hv7 := hid (hv6.out.later (below_new w6 (.cells #[.string ⟨nm.toArray⟩, .int .i64 xk, .int .i64 xn, .string xt, .slice ya xl.length yc, .slice za xfv.length zc] 50)))
                     have hown6 := hid (own_callK fldRel (hownn.out.later fldRel (Below.refl _ _).drew) hvn.out.drew h6 (.cells #[.string ⟨nm.toArray⟩, .int .i64 xk, .int .i64 xn, .string xt, .slice ya xl.length yc, .slice za xfv.length zc] 50))
                     have hX6 := hid (show RdFl _ _ ((⟨nm.toArray⟩ : ByteArray), PVal.mk xk xn xt xl xfn xfv) [.string ⟨nm.toArray⟩, .int .i64 xk, .int .i64 xn, .string xt, .slice ya xl.length yc, .slice za xfv.length zc] from ⟨_, rfl, hns.out, rd_apartK hr6 (hownn.out.later fldRel (Below.refl _ _).drew) hvn.out.lt (.cells #[.string ⟨nm.toArray⟩, .int .i64 xk, .int .i64 xn, .string xt, .slice ya xl.length yc, .slice za xfv.length zc] 50)⟩)
                     have hB6 := hid hv7.out.lt
                     have c4 : w6.cell? ⟨w.heap.size, 4, none⟩ = some vs := hv6.out.cell (j := 4) rfl
                     have c4a : (w6.alloc (.cells #[.string ⟨nm.toArray⟩, .int .i64 xk, .int .i64 xn, .string xt, .slice ya xl.length yc, .slice za xfv.length zc] 50)).cell? ⟨w.heap.size, 4, none⟩ = some vs := hv7.out.cell (j := 4) rfl)
                  | (refine step_append_g fldRel _ rfl _ _ 23 rfl (w.heap.size + 1) (w.heap.size + 1) 50 96 i0 _ Tryd.underlying23 hi hz0 hz1 hz2 rfl (by decide) fs vs rfl hown6.out ⟨w6.heap.size, 0, none⟩ 1 [.string ⟨nm.toArray⟩, .int .i64 xk, .int .i64 xn, .string xt, .slice ya xl.length yc, .slice za xfv.length zc] (⟨nm.toArray⟩, .mk xk xn xt xl xfn xfv) rfl (cells_new _ _ rfl _ _) hX6.out (by have := hcl.out; omega) (by have := hcl.out; unfold maxLen; omega) hB6.out ?_
                     intro v8 w8 hown8 hg8 hlow8 hst8
                     obtain ⟨a8, m8, n8, rfl⟩ := own_sliceK hown8
                     have hv8 := hid (hv7.out.grow (grown_from hown6.out hg8 hB6.out))
                     have c4 : w8.cell? ⟨w.heap.size, 4, none⟩ = some vs := hv8.out.cell (j := 4) rfl
                     have fz := hv8.out.free 4))
              all_goals (have hv9 := hid (hv8.out.set 4 (.slice a8 m8 n8))
                         have ho9 := hid (hown8.box fldRel ⟨w.heap.size, 4, none⟩ (.slice a8 m8 n8) (fun e => absurd (hown8.lt _ e).1 (by show ¬ (w.heap.size + 1 ≤ w.heap.size); omega)) (by show w.heap.size < w.heap.size + 1; omega))
                         generalize w8.setCell ⟨w.heap.size, 4, none⟩ (.slice a8 m8 n8) = w9 at *
                         replace hv9 : Hid (KS g w ((t.drop i).drop k) #[.int .i64 6, .int .i64 0, .string ⟨#[]⟩, .slice none 0 0, .slice a8 m8 n8] w9) := hv9
                         rw [List.drop_drop] at hv9
                         go_wp2_with fail
                         go_step3
                         exact ⟨_, by rw [hn]; exact Nat.succ_lt_succ (Nat.lt_succ_of_le (by rw [hd1.out (i + k), List.length_drop]; omega)), _, .inr (.inr (.inr ⟨rfl, (kvF_mk g d _ rfl).choose_spec, f', _, c + 1 + (i + k), .slice a8 m8 n8, _, rfl, by rw [hd1.out (i + k), List.length_drop]; omega, by simp; omega, hRR.out, by rw [hd1.out (i + k), ← Nat.add_assoc]; exact hst.out, by rw [hd1.out (i + k)]; exact hv9.out, ho9.out⟩))⟩)
  · intro pass
    replace pass := hid pass
    have hv0 := hid (ks_new h0.out #[.int .i64 0, .int .i64 0, .string ⟨#[]⟩, .slice none 0 0, .slice none 0 0])
    go_wp2_with fail
    refine (hmy.out _).mono ?_
    rintro e w0 ⟨rfl, rfl⟩
    cases r with
    | nil =>
      have hRR : Hid (R = none) := hR.out
      go_wp2_with fail
      refine (hbn.out _ hv0.out.at_).mono ?_
      rintro e w1 ⟨rfl, h1⟩
      go_wp2_with fail
      rw [jumps_panic]
      exact ⟨rfl, toldK_none hRR.out (hv0.out.save.trans h1)⟩
    | cons k r1 =>
    have hk8 := k.toNat_lt
    have hb := hid (hbs.out _ _ _ hv0.out.at_)
    obtain ⟨z, hz⟩ : ∃ z, z = k.toNat := ⟨_, rfl⟩
    obtain ⟨c, hc⟩ : ∃ c, c = k.toNat / 10 := ⟨_, rfl⟩
    rw [← hz] at hb
    have hkc := hid hc.symm
    have ez : (z : Int) / 10 = (c : Int) := by omega
    have ed : Int.tdiv (z : Int) 10 = (c : Int) := by rw [Int.tdiv_eq_ediv_of_nonneg (by omega)]; exact ez
    have e0 : IntKind.i64.wrap (z : Int) = z := IntWalk.i64_in _ (by omega)
    have e1 : IntKind.i64.wrap (c : Int) = c := IntWalk.i64_in _ (by omega)
    have hc8 : c ≤ 25 := by omega
    clear hc hz
    go_wp2_with fail
    refine hb.out.mono ?_
    rintro e w1 ⟨rfl, h1, h2⟩
    have hv1 := hid (hv0.out.call h1 h2)
    have c0 : w1.cell? ⟨w.heap.size, 0, none⟩ = some (.int .i64 0) := hv1.out.cell (j := 0) rfl
    have fz := hv1.out.free 0
    go_upto_region 4 with fail
    have hv2 := hid (hv1.out.set 0 (.int .i64 c))
    clear c0 fz
    generalize w1.setCell ⟨w.heap.size, 0, none⟩ (.int .i64 (c : Int)) = w2 at *
    replace hv2 : Hid (KS g w r1 #[.int .i64 (c : Int), .int .i64 0, .string ⟨#[]⟩, .slice none 0 0, .slice none 0 0] w2) := hv2
    have c0 : w2.cell? ⟨w.heap.size, 0, none⟩ = some (.int .i64 (c : Int)) := hv2.out.cell (j := 0) rfl
    clear ez ed e0 e1
    by_cases k1 : c = 1
    · subst k1
      have hRR := hid (hR.out.trans (headK_1 hkc.out))
      go_wp2_with fail
      go_step3
      exact ⟨0, fun _ => undef, .inl ⟨rfl, rfl, kvE_mk _ rfl, _, _, _, hRR.out, rd_atomK ⟨by decide, by decide⟩ ⟨by decide, by decide⟩ (by decide), hv2.out⟩⟩
    have n1 : decide ((c : Int) = 1) = false := decide_eq_false (by omega)
    by_cases k2 : c = 2
    · subst k2
      have hRR := hR.out.trans (headK_2 hkc.out)
      clear n1 k1
      cases r1 with
      | nil =>
        replace hRR := hid hRR
        go_wp2_with fail
        refine (hbn.out _ hv2.out.at_).mono ?_
        rintro e w3 ⟨rfl, h3⟩
        go_wp2_with fail
        rw [jumps_panic]
        exact ⟨rfl, toldK_none hRR.out (hv2.out.save.trans h3)⟩
      | cons y r2 =>
        simp only at hRR
        have hb2 := hid (hbs.out _ _ _ hv2.out.at_)
        have hy8 := y.toNat_lt
        generalize y.toNat = z at *
        have e1 : IntKind.i64.wrap (z : Int) = z := IntWalk.i64_in _ (by omega)
        have hzz : Hid (I64 (z : Int)) := by show I64 _; unfold I64; omega
        replace hRR := hid hRR
        go_wp2_with fail
        refine hb2.out.mono ?_
        rintro e w3 ⟨rfl, h3, h4⟩
        clear c0
        have hv3 := hid (hv2.out.call h3 h4)
        have c1 : w3.cell? ⟨w.heap.size, 1, none⟩ = some (.int .i64 0) := hv3.out.cell (j := 1) rfl
        have fz := hv3.out.free 1
        go_wp2_with fail
        have hv4 := hid (hv3.out.set 1 (.int .i64 z))
        clear c1 fz
        generalize w3.setCell ⟨w.heap.size, 1, none⟩ (.int .i64 (z : Int)) = w4 at *
        replace hv4 : Hid (KS g w r2 #[.int .i64 2, .int .i64 z, .string ⟨#[]⟩, .slice none 0 0, .slice none 0 0] w4) := hv4
        go_step3
        exact ⟨0, fun _ => undef, .inl ⟨rfl, rfl, kvE_mk _ rfl, _, _, _, hRR.out, rd_atomK ⟨by decide, by decide⟩ hzz.out (by decide), hv4.out⟩⟩
    have n2 : decide ((c : Int) = 2) = false := decide_eq_false (by omega)
    by_cases k3 : c = 3
    · subst k3
      have hRR := hid (hR.out.trans (headK_3 hkc.out))
      clear n1 k1 n2 k2
      go_wp2_with fail
      go_step3
      exact ⟨1, _, .inr (.inl ⟨rfl, rfl, (kvF_mk g d _ rfl).choose_spec, hRR.out, hv2.out⟩)⟩
    have n3 : decide ((c : Int) = 3) = false := decide_eq_false (by omega)
    by_cases k4 : c = 4
    · subst k4
      have hRR := hR.out.trans (headK_4 hkc.out)
      clear n1 k1 n2 k2 n3 k3
      have ht := htx.out _ _ hv2.out.at_
      cases hT : txtK false r1 with
      | none =>
        rw [hT] at hRR ht
        replace hRR := hid hRR
        replace ht := hid ht
        clear hT
        go_wp2_with fail
        refine ht.out.mono ?_
        rintro e w3 ⟨h3, rfl⟩
        go_wp2_with fail
        rw [jumps_panic]
        exact ⟨rfl, toldK_none hRR.out (hv2.out.save.trans h3)⟩
      | some q =>
        obtain ⟨t, i⟩ := q
        have htl := (txtK_le false _ _ _ hT)
        rw [hT] at hRR ht
        simp only at hRR
        replace hRR := hid hRR
        replace ht := hid ht
        clear hT
        have hts : Hid ((⟨t.toArray⟩ : ByteArray).size ≤ 140737488355328) := by
          show _ ≤ _
          have h1 : (⟨t.toArray⟩ : ByteArray).size = t.length := by simp [ByteArray.size]
          have h2 := hdl.out 1
          simp only [List.drop_succ_cons, List.drop_zero] at h2
          omega
        clear htl
        go_wp2_with fail
        refine ht.out.mono ?_
        rintro e w3 ⟨h3, v3, rfl, rfl, h4⟩
        clear c0
        have hv3 := hid (hv2.out.call h3 h4)
        have c2 : w3.cell? ⟨w.heap.size, 2, none⟩ = some (.string ⟨#[]⟩) := hv3.out.cell (j := 2) rfl
        have fz := hv3.out.free 2
        go_wp2_with fail
        have hv5 := hid (hv3.out.set 2 (.string ⟨t.toArray⟩))
        clear c2 fz
        generalize w3.setCell ⟨w.heap.size, 2, none⟩ (.string ⟨t.toArray⟩) = w5 at *
        replace hv5 : Hid (KS g w (r1.drop i) #[.int .i64 4, .int .i64 0, .string ⟨t.toArray⟩, .slice none 0 0, .slice none 0 0] w5) := hv5
        go_step3
        exact ⟨0, fun _ => undef, .inl ⟨rfl, rfl, kvE_mk _ rfl, _, _, _, hRR.out, rd_atomK ⟨by decide, by decide⟩ ⟨by decide, by decide⟩ hts.out, by rw [Nat.add_comm, List.drop_succ_cons]; exact hv5.out⟩⟩
    have n4 : decide ((c : Int) = 4) = false := decide_eq_false (by omega)
    by_cases k5 : c = 5
    · subst k5
      have hRR := hid (hR.out.trans (headK_5 hkc.out))
      clear n1 k1 n2 k2 n3 k3 n4 k4
      go_wp2_with fail
      go_step3
      exact ⟨_, _, .inr (.inr (.inl ⟨rfl, (kvF_mk g d _ rfl).choose_spec, r1.length, [], 0, .slice none 0 0, listK false p (r1.length + 1) r1, rfl, Nat.le_refl _, Nat.le_refl _, by rw [hRR.out]; unfold listG; rfl, goL_start _, hv2.out, OwnG.nil _⟩))⟩
    have n5 : decide ((c : Int) = 5) = false := decide_eq_false (by omega)
    by_cases k6 : c = 6
    · subst k6
      have hRR := hid (hR.out.trans (headK_6 hkc.out))
      clear n1 k1 n2 k2 n3 k3 n4 k4 n5 k5
      go_wp2_with fail
      go_step3
      exact ⟨_, _, .inr (.inr (.inr ⟨rfl, (kvF_mk g d _ rfl).choose_spec, r1.length, [], 0, .slice none 0 0, fieldsK false p (r1.length + 1) r1, rfl, Nat.le_refl _, Nat.le_refl _, by rw [hRR.out]; unfold fieldsG; rfl, goF_start _, hv2.out, OwnG.nil _⟩))⟩
    have n6 : decide ((c : Int) = 6) = false := decide_eq_false (by omega)
    have hRR : Hid (R = none) := hR.out.trans (headK_0 (by rw [hkc.out]; omega))
    go_wp2_with fail
    refine (hmn.out _).mono ?_
    rintro e w5 ⟨rfl, rfl⟩
    go_wp2_with fail
    rw [jumps_panic]
    exact ⟨rfl, toldK_none hRR.out hv2.out.save⟩
end Go.Proofs.YtihcegakghmdfaaDoor
