/-
  Walk: the law UtfKept.
-/
import Derived.Test.YtdjegpmjhfbamaaDoorUtf12
import Derived.Laws.AppendOwnNone
import Derived.Laws.OwnMore
import Derived.ChangeSlices
import Derived.WideShapes
namespace Go.Proofs.YtdjegpmjhfbamaaDoor
open Go.RowKit Go.Proofs

theorem runesAt_pre {w : World} {B e g n cap : Nat} {l : List Int} {xs : List Value} (h : w.ownsRow B e 1 (.slice (some ⟨g, 0, none⟩) n cap) n ((l.map (Value.int .i32)) ++ xs)) (hr : ∀ x ∈ l, -2147483648 ≤ x ∧ x ≤ 2147483647) (hn : l.length ≤ n) : RunesAt w l (.slice (some ⟨g, 0, none⟩) l.length cap) := by
  have hc := row_cap h
  refine ⟨_, _, rfl, by omega, hc.2, hr, .inr ⟨g, 0, rfl, (h.lt g rfl).2, fun j x hx => ?_⟩⟩
  have hj : j < l.length := (List.getElem?_eq_some_iff.1 hx).1
  have h1 := h.cellAt j (by omega)
  rw [Nat.zero_add, h1, List.getElem?_append_left (by simpa using hj), List.getElem?_map, hx]
  rfl

/-- append of a slice, nil or not, to a slice that the call owns. -/
theorem wpList_append_own_any {P : Program} (w : World) {ops : Array Oper} {rest : List Oper} {o : Oper} {a : Act} {Q : Exit → Act → World → Prop} (hgd : o.guard = none) (s x : Operand) (t : TypeId)
    (ho : o.op = .call { callee := .builtin .append, args := #[s, x], argTypes := #[t, t] })
    (base : Nat) (e : TypeId) (i : TypeInfo) (z : Value) (size bytes : Nat) (ht : P.underlying t = some (.slice e)) (hi : P.info? e = some i) (hz : i.zero = some z)
    (hsize : i.size = size) (hby : i.bytes = bytes) (hzs : z.cells.size = size) (hsz : 0 < size)
    (v : Value) (n : Nat) (xs : List Value) (hs : a.eval s = v) (hown : w.ownsRow base e size v n xs)
    (ao : Option Addr) (m c : Nat) (news : List Value) (hx : a.eval x = .slice ao m c) (hl : news.length = m * size) (hnone : ao = none → m = 0 ∧ c = 0) (hnews : ∀ ad, ao = some ad → ∀ j u, news[j]? = some u → w.cell? (ad.add j) = some u) (h1 : ∀ u ∈ news, u.oneCell' = true)
    (h63 : n + m ≤ maxLen) (hbytes : (n + m) * bytes ≤ 140737488355328) (hbase : base ≤ w.heap.size)
    (h : ∀ v' w', w'.ownsRow base e size v' (n + m) (xs ++ news) → w.grownBy w' v.ownBlock → wpList P ops Q rest (a.put o.dst v') w') : wpList P ops Q (o :: rest) a w := by
  cases ao with
  | none =>
    obtain ⟨rfl, rfl⟩ := hnone rfl
    obtain rfl : news = [] := List.eq_nil_of_length_eq_zero (by simpa using hl)
    refine wpList_append_own_none hgd s x t ho base e i size ht hi v n xs hs hown hx ?_
    exact h v w (by simpa using hown) ⟨rfl, rfl, rfl, Nat.le_refl _, fun _ _ _ => rfl⟩
  | some ad => exact wpList_append_own w hgd s x t ho base e i z size bytes ht hi hz hsize hby hzs hsz v n xs hs hown ad m c news hx hl (hnews ad rfl) h1 h63 hbytes hbase fun v' w' h2 h3 _ => h v' w' h2 h3

theorem addr_row (b off n : Nat) : (⟨b, off, none⟩ : Addr).add n = ⟨b, off + n, none⟩ := by
  unfold Addr.add
  split
  · rename_i h; rw [h]; rfl
  · rfl
theorem setCell_row {w : World} {g i : Nat} {u : Value} {B : Nat} {a : World} (h : Below B a w) (hg : B ≤ g) : Below B a (w.setCell ⟨g, i, none⟩ u) := h.setCell (p := ⟨g, i, none⟩) hg u

set_option maxRecDepth 100000 in
set_option maxHeartbeats 32000000 in
theorem ukept_calls (s : ByteArray) (hs : s.size ≤ 4294967296) (l : List Int) (hl : l.length ≤ 4294967296) (v : Value) (w : World) (hv : RunesAt w l v) (hfm : v = .slice none 0 0 ∨ ∃ ad n c, v = .slice (some ad) n c) (hT : Tabs w) :
    Calls Tryd.prog 6 #[.string s, v] w fun e w' => e = .returned (.bool true) ∧ Below w.heap.size w w' := by
  obtain ⟨i0, hi, hz0, hz1, hz2⟩ := info_parts info_i32
  have haw := hid (uawake_calls w hT)
  have hTs := hid (fun w' hb => Tabs.stays w w' hT hb)
  clear hT
  have hv0 := hid hv
  have hr := hid (fun w hT => runes_calls s (by omega) w hT)
  have hrr := hid (fun w => rrunes_calls s (by omega) w)
  have ht := hid (fun v w hv => utext_calls l v w hv (by omega))
  have htr := hid (fun v w hv => rtext_calls l v w hv (by omega))
  have hval : Hid ((runesD s.data.toList).isSome = utf s) := runesD_valid _ _ rfl
  have hsm := hid (fun rs v v' w h h' => usame_calls rs v v' w h h')
  obtain ⟨X, hX⟩ : ∃ X : ByteArray, X = (if okR l = true then ⟨(textI l).toArray⟩ else ⟨#[]⟩) := ⟨_, rfl⟩
  obtain ⟨E, hE⟩ : ∃ E : Int, E = (if okR l = true then 0 else 11) := ⟨_, rfl⟩
  rw [← hX, ← hE] at ht
  rw [← hX] at htr
  have hall : (okR l = false ∧ E = 11) ∨ (okR l = true ∧ E = 0) := by
    cases h : okR l with
    | false => exact .inl ⟨rfl, by rw [hE, h, if_neg (by simp)]⟩
    | true => exact .inr ⟨rfl, by rw [hE, h, if_pos rfl]⟩
  generalize okR l = O at *
  clear hX hE
  obtain ⟨a0, cap0, rfl, hc1, hc2, hrg, hcs⟩ := hv
  replace hrg := hid hrg
  -- the copy: its row, and what it reads as
  have hcopy : Hid (∀ (w1 w2 : World) (g cap : Nat), Below w.heap.size w w1 → w2.ownsRow w1.heap.size 21 1 (.slice (some ⟨g, 0, none⟩) (l.length + 1) cap) (l.length + 1) (l.map (Value.int .i32) ++ [.int .i32 201]) → RunesAt w2 l (.slice (some ⟨g, 0, none⟩) l.length cap) ∧ w2.cell? ⟨g, l.length, none⟩ = some (.int .i32 201) ∧ l.length + 1 ≤ cap ∧ g < w2.heap.size) := fun w1 w2 g cap _ h => by
    refine ⟨runesAt_pre h hrg.out (by omega), ?_, (row_cap h).1, (h.lt g rfl).2⟩
    rw [h.cellAt l.length (by omega), List.getElem?_append_right (by simp)]
    simp
  have hn0 : a0 = none → l.length = 0 ∧ cap0 = 0 := fun h => by
    subst h
    rcases hfm with hnone | ⟨ad, n', c', hsome⟩
    · injection hnone with e1 e2 e3
      exact ⟨e2, e3⟩
    · cases hsome
  clear hfm
  replace hn0 := hid hn0
  have hl0 := hid hcs
  obtain ⟨rs, hrs⟩ : ∃ rs, rs = (runesD s.data.toList).getD [] := ⟨_, rfl⟩
  obtain ⟨G, hG⟩ : ∃ G : Int, G = (if utf s = true then 0 else 11) := ⟨_, rfl⟩
  have hr' : Hid (∀ w, Tabs w → Calls Tryd.prog 25 #[.string s] w fun e w' => ∃ a n cap xs, e = .returned (.tuple #[.slice a n cap, .int .i64 G]) ∧ Below w.heap.size w w' ∧ w'.ownsRow w.heap.size 21 1 (.slice a n cap) n xs ∧ n ≤ 4294967296 ∧ RunesAt w' (nums rs) (.slice a n cap)) := fun w hT => by
    refine (hr.out w hT).mono ?_
    rintro e w' ⟨a, n, cap, rfl, hb, hyes, hno⟩
    cases hd : runesD s.data.toList with
    | none =>
      obtain ⟨rfl, rfl, rfl⟩ := hno hd
      rw [hd] at hrs
      subst hrs
      exact ⟨none, 0, 0, [], by rw [hG], hb, World.ownsRow_nil _ _ _ _, by omega, ⟨none, 0, rfl, Nat.le_refl _, by simp, by simp [nums], .inl rfl⟩⟩
    | some rs' =>
      rw [hd] at hrs
      obtain rfl : rs = rs' := hrs
      obtain ⟨rfl, hown, _⟩ := hyes rs hd
      have := runes_len hd
      exact ⟨a, _, cap, _, by rw [hG], hb, hown, by simp at this; omega, runesAt_own hown (runes_text hd).2⟩
  have hrr' : Hid (∀ w, Calls Tryd.prog 27 #[.string s] w fun e w' => ∃ v, e = .returned (.tuple #[v, .bool (utf s)]) ∧ Below w.heap.size w w' ∧ RunesAt w' (nums rs) v) := fun w => by
    refine (hrr.out w).mono ?_
    rintro e w' ⟨v, rfl, hb, hyes, hno⟩
    rw [hval.out]
    cases hd : runesD s.data.toList with
    | none =>
      obtain rfl := hno hd
      rw [hd] at hrs
      subst hrs
      exact ⟨_, rfl, hb, ⟨none, 0, rfl, Nat.le_refl _, by simp, by simp [nums], .inl rfl⟩⟩
    | some rs' =>
      rw [hd] at hrs
      obtain rfl : rs = rs' := hrs
      exact ⟨_, rfl, hb, runesAt_own (hyes rs hd) (runes_text hd).2⟩
  clear hr hrr hrs
  generalize nums rs = ns at *
  have hGU : (utf s = false ∧ G = 11) ∨ (utf s = true ∧ G = 0) := by
    cases h : utf s with
    | false => exact .inl ⟨rfl, by rw [hG, h, if_neg (by simp)]⟩
    | true => exact .inr ⟨rfl, by rw [hG, h, if_pos rfl]⟩
  clear hval hG
  generalize utf s = U at *
  have hcs0 := hid hcs
  clear hcs
  rcases hGU with ⟨rfl, rfl⟩ | ⟨rfl, rfl⟩ <;> rcases hall with ⟨rfl, rfl⟩ | ⟨rfl, rfl⟩
  all_goals
    go_enter Tryd.func6, Tryd.ntmps6
    go_wp2_with fail
    refine haw.out.mono ?_
    rintro e w1 ⟨rfl, h1⟩
    have hoE := hid (World.ownsRow_lit (base := w1.heap.size) (e := 21) (size := 1) w1 #[] 0 (Nat.le_refl _) (by decide) rfl)
    have hb1 : w1.heap.size ≤ (w1.alloc (.cells #[] 21)).heap.size := by simp
    replace hb1 := hid hb1
    have hnews : Hid (∀ ad, a0 = some ad → ∀ j u, (l.map (Value.int .i32))[j]? = some u → (w1.alloc (.cells #[] 21)).cell? (ad.add j) = some u) := fun ad had j u hu => by
      rw [List.getElem?_map] at hu
      obtain ⟨x, hx, rfl⟩ := Option.map_eq_some_iff.1 hu
      rcases hl0.out with h0 | ⟨b, off, e, hbl, hcell⟩
      · subst h0; simp at hx
      · rw [had] at e
        obtain rfl := Option.some.inj e
        rw [addr_row, ((h1.step (below_new w1 _)).cell (p := ⟨b, off + j, none⟩) hbl)]
        exact hcell j x hx
    have hone : Hid (∀ u ∈ l.map (Value.int .i32), u.oneCell' = true) := fun u hu => by
      obtain ⟨x, _, rfl⟩ := List.mem_map.1 hu
      rfl
    replace h1 := hid h1
    go_wp2_with (first
      | (at_builtin; (refine wpList_append_own_any _ rfl (.tmp 19) (.tmp 20) 34 rfl w1.heap.size 21 i0 (.int .i32 0) 1 4 Tryd.underlying34 hi hz0 hz1 hz2 rfl (by decide) _ 0 [] rfl hoE.out a0 l.length cap0 (l.map (Value.int .i32)) rfl (by simp) hn0.out hnews.out hone.out (by unfold maxLen; omega) (by omega) hb1.out ?_); intro v2 w2 hown2 hg2; replace hown2 := hid hown2; replace hg2 := hid hg2)
      | (at_builtin; (refine wpList_append_own_any _ rfl (.tmp 21) (.tmp 22) 34 rfl w1.heap.size 21 i0 (.int .i32 0) 1 4 Tryd.underlying34 hi hz0 hz1 hz2 rfl (by decide) _ (0 + l.length) ([] ++ l.map (Value.int .i32)) rfl (hown2.out.alloc _) (some ⟨w2.heap.size, 0, none⟩) 1 1 [.int .i32 201] rfl rfl (fun h => by cases h) (fun ad had => by obtain rfl := Option.some.inj had; exact cells_new w2 _ rfl [.int .i32 201] _) (by intro u hu; simp at hu; subst hu; rfl) (by unfold maxLen; omega) (by omega) (Nat.le_trans (Nat.le_trans hb1.out hg2.out.size) (below_new w2 _).size) ?_); intro v3 w3 hown3 hg3; replace hown3 := hid hown3; replace hg3 := hid hg3
         obtain ⟨g3, cap3, rfl⟩ : ∃ g3 cap3, v3 = .slice (some ⟨g3, 0, none⟩) (l.length + 1) cap3 := by
           rcases hown3.out.2 with ⟨_, h0⟩ | ⟨g, cap, cur, hv, _⟩
           · omega
           · exact ⟨g, cap, by rw [hv, Nat.zero_add]⟩
         have hcap3 := row_cap hown3.out))
    have hBa : Below w.heap.size w (w1.alloc (.cells #[] 21)) := h1.out.step (below_new _ _)
    have hBb : Below w.heap.size w w2 := hBa.grown hg2.out hBa.size (fun k hk => Nat.le_trans h1.out.size (hoE.out.lt k hk).1)
    have hBc : Below w.heap.size w (w2.alloc (.cells #[.int .i32 201] 21)) := hBb.step (below_new _ _)
    have hD := hid (hBc.grown hg3.out hBc.size (fun k hk => Nat.le_trans h1.out.size (hown2.out.lt k hk).1))
    have hown3' : w3.ownsRow w1.heap.size 21 1 (.slice (some ⟨g3, 0, none⟩) (l.length + 1) cap3) (l.length + 1) (l.map (Value.int .i32) ++ [.int .i32 201]) := by simpa using hown3.out
    obtain ⟨hC, h201, hcl, hgl⟩ := hcopy.out w1 w3 g3 cap3 h1.out hown3'
    replace hC := hid hC
    replace h201 := hid h201
    clear hBa hBb hBc hown3 hown2 hg2 hg3 hnews hoE hb1 hown3' hcap3 hcopy
    refine (ht.out _ _ hC.out).mono ?_
    rintro e w4 ⟨rfl, hb4⟩
    have hD4 := hid (hD.out.step hb4)
    have hC4 := hid (hC.out.later hb4)
    have h2014 := hid ((hb4.cell (p := ⟨g3, l.length, none⟩) hgl).trans h201.out)
    have hgl4 : g3 < w4.heap.size := Nat.lt_of_lt_of_le hgl hb4.size
    have hv4 := hid (hv0.out.later hD4.out)
    have hD4z := hD4.out.size
    clear hC h201 hgl hD
    go_wp2_with fail
    refine (hr'.out _ (hTs.out _ hD4.out)).mono ?_
    rintro e w5 ⟨ax, nx, cx, xs, rfl, hb5, hox, hnx, _⟩
    replace hb5 := hid hb5
    replace hox := hid hox
    go_wp2_with fail
    go_loopg [10] nx (fun g i wr => ∃ (j : Nat) (ys : List Value), g + j = nx ∧ i = .int .i64 j ∧ wr.ownsRow w4.heap.size 21 1 (.slice ax nx cx) nx ys ∧ Below w4.heap.size w4 wr)
    case atStart => exact ⟨0, xs, by omega, rfl, hox.out, hb5.out⟩
    case round =>
      obtain ⟨j, ys, hj, rfl, hoy, hby⟩ := hrel
      by_cases hlt : j < nx
      · obtain ⟨gx, capx, hvx⟩ : ∃ gx cap, Value.slice ax nx cx = .slice (some ⟨gx, 0, none⟩) nx cap := by
          rcases row_form hoy with ⟨_, h0⟩ | ⟨g, cap, hv⟩
          · omega
          · exact ⟨g, cap, hv⟩
        injection hvx with e1 e2 e3
        subst e1 e3
        have hgx := (hoy.lt gx rfl).1
        obtain ⟨y, hy⟩ : ∃ y, ys[j]? = some y := ⟨_, List.getElem?_eq_getElem (by rw [hoy.1]; omega)⟩
        have c0 := (hoy.cellAt j (by omega)).trans hy
        have f0 := hoy.frozenAt j
        obtain ⟨hs1, hs2⟩ := hoy.stored j (.int .i32 99)
        have hby2 := setCell_row (i := j) (u := .int .i32 99) hby hgx
        replace hs1 := hid hs1
        replace hby2 := hid hby2
        clear hs2 hy hoy
        go_wp2_with fail
        go_roundg (nx - (j + 1))
        case measure => omega
        case rel => exact ⟨j + 1, ys.set j (.int .i32 99), by omega, by go_num, hs1.out, hby2.out⟩
      · have hz6 := hby.size
        replace hby := hid hby
        replace hoy := hid hoy
        go_wp2_with (first
          | (at_builtin; (refine wpList_append_own_any _ rfl (.tmp 46) (.tmp 47) 34 rfl w4.heap.size 21 i0 (.int .i32 0) 1 4 Tryd.underlying34 hi hz0 hz1 hz2 rfl (by decide) _ nx ys rfl (hoy.out.alloc _) (some ⟨wr.heap.size, 0, none⟩) 1 1 [.int .i32 98] rfl rfl (fun h => by cases h) (fun ad had => by obtain rfl := Option.some.inj had; exact cells_new wr _ rfl [.int .i32 98] _) (by intro u hu; simp at hu; subst hu; rfl) (by unfold maxLen; omega) (by omega) (Nat.le_trans hz6 (below_new wr _).size) ?_); intro v6 w6 hown6 hg6
             have hb6 := hid ((hby.out.alloc hz6 (.cells #[.int .i32 98] 21)).grown hg6 (Nat.le_trans hz6 (below_new wr _).size) (fun k hk => (hoy.out.lt k hk).1))
             clear hown6 hg6))
        have hD6 := hid (hD4.out.trans (hb6.out.mono hD4z))
        refine (hr'.out _ (hTs.out _ hD6.out)).mono ?_
        rintro e w7 ⟨ay, ny, cy, _, rfl, hb7, _, _, hy7⟩
        replace hy7 := hid hy7
        have hK7 := hid (hb6.out.step hb7)
        have hD7 := hid (hD6.out.step hb7)
        clear hb7 hD6 hb6
        go_wp2_with fail
        refine (hrr'.out _).mono ?_
        rintro e w8 ⟨v8, rfl, hb8, hy8⟩
        replace hy7 := hid (hy7.out.later hb8)
        have hK8 := hid (hK7.out.step hb8)
        have hD8 := hid (hD7.out.step hb8)
        clear hK7 hD7 hb8
        go_wp2_with fail
        refine (htr.out _ _ (hv0.out.later hD8.out)).mono ?_
        rintro e w9 ⟨rfl, hb9⟩
        replace hy7 := hid (hy7.out.later hb9)
        replace hy8 := hid (hy8.later hb9)
        have hK9 := hid (hK8.out.step hb9)
        have hD9 := hid (hD8.out.step hb9)
        clear hK8 hD8 hb9
        go_wp2_with fail
        refine (hsm.out _ _ _ _ hy7.out hy8.out).mono ?_
        rintro e w10 ⟨rfl, hb10⟩
        have hK10 := hid (hK9.out.step hb10)
        have hD10 := hid (hD9.out.step hb10)
        clear hK9 hD9 hb10
        go_wp2_with fail
        refine (hsm.out _ _ _ _ (hC4.out.later hK10.out) (hv4.out.later hK10.out)).mono ?_
        rintro e w11 ⟨rfl, hb11⟩
        have hK11 := hid (hK10.out.step hb11)
        have hD11 := hid (hD10.out.step hb11)
        have c201 := (hK11.out.cell (p := ⟨g3, l.length, none⟩) hgl4).trans h2014.out
        have hcl' : (l.length : Int) + 1 ≤ (cap3 : Int) := by omega
        clear hK10 hD10 hb11
        go_wp2_with fail
        go_ret
        exact ⟨by simp, hD11.out⟩

section
variable {H : Type} {enc : TypeId × Value → H} {w : World} {base : Nat} {spare held : _}
open Go.ChangeShapes Go.WideShapes in
set_option maxRecDepth 100000 in
/-- A slice of characters that came in: nil, or it has an address. -/
theorem form_runes {v : Value} {d : DataW H} {p : List MemPlace} {r : Reach} {b0 : Nat} (hv : Value.okWide Tryd.prog w r b0 34 v) (h : DataW.Trod enc Tryd.prog w base spare held 34 v d p) : v = .slice none 0 0 ∨ ∃ ad n c, v = .slice (some ad) n c := by
  obtain ⟨a, n, c, rfl⟩ : ∃ a n c, v = .slice a n c := okWide_slice Tryd.underlying34 hv
  obtain ⟨fuel, hf⟩ := h
  rcases open_ints Tryd.underlying34 Tryd.underlying21 (by kernel_rfl) hf with ⟨h1, _⟩ | ⟨a', len, cap, zs, h1, _⟩
  · exact .inl (by simpa [Value.cells] using h1)
  · exact .inr ⟨a', len, cap, by simpa [Value.cells] using h1⟩
end
end Go.Proofs.YtdjegpmjhfbamaaDoor
