/-
  A slice of fields read as a row of elements; a row of the call's own as the sort takes it. No condition.
  Walk: slices.SortStableFunc where nothing is. No condition.
  What a sorted row of fields reads as. No condition.
-/
import Derived.Test.YtckdgmjekfpcjaaDoorMgSrt8
import Derived.Test.YtckdgmjekfpcjaaDoorMgPth10
namespace Go.Proofs.YtckdgmjekfpcjaaDoor
open Go.RowKit Go.Proofs
open Go.Sort (PermIn SortedIn)

/-- A row of the call's own. -/
theorem rowE_of {w : World} {B e cap g : Nat} {es : List FE} (h : w.ownsRow B e 6 (.slice (some ⟨g, 0, none⟩) es.length cap) es.length (es.map FE.cells).flatten) : RowE w g 0 es.toArray := by
  refine ⟨(h.lt g rfl).2, fun i hi j v hv => ?_, fun o => h.frozenAt o⟩
  have hi2 : i < es.length := by simpa using hi
  have hx : es.toArray[i]! = es[i] := by simp [hi2]
  rw [hx] at hv
  have h1 := flatten_at 6 (es.map FE.cells) (fun cs hc => by
    obtain ⟨x, _, rfl⟩ := List.mem_map.1 hc
    rfl) i es[i].cells (by rw [List.getElem?_map, List.getElem?_eq_getElem hi2]; rfl) j v hv
  have h2 := h.cells (g := g) rfl _ _ h1
  rw [addr_at] at h2
  rwa [← Nat.add_assoc] at h2
/-- What an element reads as. -/
def ReadE (w : World) (S : Nat → Prop) (x : FE) (f : ByteArray × PVal) : Prop := x.nm = f.1 ∧ f.1.size ≤ 140737488355328 ∧ Rd w S f.2 x.val
theorem fe_of {w : World} {S : Nat → Prop} {V : PVal} {cs : List Value} (nm : ByteArray) (h : Rd w S V cs) : ∃ x : FE, x.nm = nm ∧ x.val = cs := by
  cases h
  exact ⟨⟨nm, _, _, _, _, _, _, _, _, _⟩, rfl, rfl⟩
/-- A slice of fields as elements. -/
theorem es_of {w : World} {fn : List ByteArray} {fv : List PVal} {la : Option Addr} {n c : Nat} (h : RdF w (Now w) fn fv (.slice la n c)) :
    ∃ es : List FE, es.length = fv.length ∧ n = fv.length ∧ LieAt w la 6 (es.map FE.cells) ∧ (la = none → (es.map FE.cells).length = 0) ∧ ∀ (i : Nat) x f, es[i]? = some x → (fn.zip fv)[i]? = some f → ReadE w (Now w) x f := by
  obtain ⟨hlen, hsz, la', cap, cs, hv, h1, h2, h3, h4⟩ := h
  injection hv with e1 e2 e3
  subst e1 e2 e3
  have hx : ∀ i, i < fv.length → ∃ x : FE, x.nm = fn.getD i ByteArray.empty ∧ x.val = cs i := fun i hi => fe_of _ (h4 i _ (List.getElem?_eq_getElem hi))
  let f : Nat → FE := fun i => if hi : i < fv.length then (hx i hi).choose else default
  have hf : ∀ i (hi : i < fv.length), (f i).nm = fn.getD i ByteArray.empty ∧ (f i).val = cs i := fun i hi => by
    show (if hi : i < fv.length then (hx i hi).choose else default).nm = _ ∧ _
    rw [dif_pos hi]
    have hfi : f i = (hx i hi).choose := dif_pos hi
    rw [hfi]
    exact (hx i hi).choose_spec
  have hcell : ∀ x : FE, x.cells = .string x.nm :: x.val := fun _ => rfl
  refine ⟨(List.range fv.length).map f, by simp, rfl, ⟨fun c hc => ?_, fun c hc => ?_, ?_⟩, fun h0 => ?_, fun i x fl hx1 hf1 => ?_⟩
  · obtain ⟨y, _, rfl⟩ := List.mem_map.1 hc
    rfl
  · obtain ⟨y, _, rfl⟩ := List.mem_map.1 hc
    exact y.one
  · rcases h3 with h0 | ⟨b, off, e, hS, hc⟩
    · left; simp [h0]
    · refine .inr ⟨b, off, e, hS, fun i c hi j v hv => ?_⟩
      rw [List.map_map, List.getElem?_map] at hi
      obtain ⟨k, hk, rfl⟩ := Option.map_eq_some_iff.1 hi
      have hki : i < fv.length ∧ k = i := by
        obtain ⟨a1, a2⟩ := List.getElem?_eq_some_iff.1 hk
        exact ⟨by simpa using a1, by simpa using a2.symm⟩
      obtain ⟨hil, rfl⟩ := hki
      refine hc k hil j v ?_
      have h9 := hf k hil
      simp only [Function.comp_apply, hcell, h9.1, h9.2] at hv
      exact hv
  · rcases h3 with h3 | ⟨b, off, e, _⟩
    · simp [h3]
    · rw [e] at h0; cases h0
  · rw [List.getElem?_map] at hx1
    obtain ⟨k, hk, rfl⟩ := Option.map_eq_some_iff.1 hx1
    have hki : i < fv.length ∧ k = i := by
      obtain ⟨a1, a2⟩ := List.getElem?_eq_some_iff.1 hk
      exact ⟨by simpa using a1, by simpa using a2.symm⟩
    obtain ⟨hil, rfl⟩ := hki
    obtain ⟨u1, u2⟩ := List.getElem?_eq_some_iff.1 hf1
    have hkn : k < fn.length := by omega
    rw [List.getElem_zip] at u2
    subst u2
    have h9 := hf k hil
    have hg : fn.getD k ByteArray.empty = fn[k] := by simp [List.getD, List.getElem?_eq_getElem hkn]
    exact ⟨by rw [h9.1, hg], hsz _ (List.getElem_mem hkn), by rw [h9.2]; exact h4 k _ (List.getElem?_eq_getElem hil)⟩
end Go.Proofs.YtckdgmjekfpcjaaDoor

namespace Go.Proofs.YtckdgmjekfpcjaaDoor
open Go.RowKit Go.Proofs

set_option maxRecDepth 100000 in
theorem insNil_calls (fv : Value) (w : World) :
    Calls Tryd.prog 39 #[.slice none 0 0, .int .i64 0, .int .i64 0, fv] w fun e w' => e = .returned (.tuple #[]) ∧ w' = w := by
  go_enter Tryd.func39, Tryd.ntmps39
  go_wp2_with fail
  go_loopg [8] 0 (fun _ s wr => s = .int .i64 1 ∧ wr = w)
  case atStart => exact ⟨rfl, rfl⟩
  case round =>
    obtain ⟨rfl, rfl⟩ := hrel
    go_wp2_with fail
    go_end0
    exact ⟨rfl, rfl⟩
set_option maxRecDepth 100000 in
theorem stableNil_calls (fv : Value) (w : World) :
    Calls Tryd.prog 26 #[.slice none 0 0, .int .i64 0, fv] w fun e w' => e = .returned (.tuple #[]) ∧ w' = w := by
  have hi := hid (fun w => insNil_calls fv w)
  go_enter Tryd.func26, Tryd.ntmps26
  go_wp2_with fail
  go_loopg [7, 8] 0 (fun _ s t wr => s = .int .i64 0 ∧ t = .int .i64 20 ∧ wr = w)
  case atStart => exact ⟨rfl, rfl, rfl⟩
  case round =>
    obtain ⟨rfl, rfl, rfl⟩ := hrel
    go_wp2_with fail
    refine (hi.out _).mono ?_
    rintro e w2 ⟨rfl, hw2⟩
    subst hw2
    go_wp2_with fail
    go_loopg [6] 0 (fun _ s wr => s = .int .i64 20 ∧ wr = w2)
    case atStart => exact ⟨rfl, rfl⟩
    case round =>
      obtain ⟨rfl, rfl⟩ := hrel
      go_wp2_with fail
      go_end0
      exact ⟨rfl, rfl⟩
set_option maxRecDepth 100000 in
theorem sortNil_calls (fv : Value) (w : World) :
    Calls Tryd.prog 16 #[.slice none 0 0, fv] w fun e w' => e = .returned (.tuple #[]) ∧ w' = w := by
  have hi := hid (fun w => stableNil_calls fv w)
  go_enter Tryd.func16, Tryd.ntmps16
  go_wp2_with fail
  refine (hi.out _).mono ?_
  rintro e w2 ⟨rfl, hw2⟩
  subst hw2
  go_wp2_with fail
  go_end0
  exact ⟨rfl, rfl⟩
/-- The sort at whatever row of the call's own. -/
theorem sortOwn_calls {base : Nat} {es : List FE} (hsz : es.length ≤ 549755813888) {w : World} {v : Value} (h : w.ownsRow base 33 6 v es.length (es.map FE.cells).flatten) :
    Calls Tryd.prog 16 #[v, .func (.func 17) #[] #[]] w fun e w' => e = .returned (.tuple #[]) ∧ Below base w w' ∧ ∃ d : Array FE, MergedE 0 es.length es.toArray d ∧ ((v = .slice none 0 0 ∧ d = #[]) ∨ ∃ g cap, v = .slice (some ⟨g, 0, none⟩) es.length cap ∧ RowE w' g 0 d ∧ base ≤ g) := by
  rcases h.2 with ⟨rfl, h0⟩ | ⟨g, cap, cur, rfl, hbg, _⟩
  · have he : es = [] := List.length_eq_zero_iff.1 h0
    subst he
    refine (sortNil_calls _ w).mono ?_
    rintro e w' ⟨h1, rfl⟩
    exact ⟨h1, Below.refl _ _, #[], ⟨Go.Sort.permIn_refl _ _ _, fun i j _ _ hj => absurd hj (Nat.not_lt_zero _)⟩, .inl ⟨rfl, rfl⟩⟩
  · have hr := rowE_of h
    have hc := sortStable_calls (cap := cap) hbg es.toArray (by simpa using hsz) hr
    have hz : es.toArray.size = es.length := by simp
    rw [hz] at hc
    refine hc.mono ?_
    rintro e w' ⟨h1, h2, d, h3, h4⟩
    exact ⟨h1, h2, d, h3, .inr ⟨g, cap, rfl, h4, hbg⟩⟩
end Go.Proofs.YtckdgmjekfpcjaaDoor

namespace Go.Proofs.YtckdgmjekfpcjaaDoor
open Go.RowKit Go.Proofs
open Go.Sort (PermIn SortedIn)

/-- Two rows, place by place. -/
def All2 {α β : Type} (R : α → β → Prop) : List α → List β → Prop
  | [], [] => True
  | x :: l, y :: m => R x y ∧ All2 R l m
  | _, _ => False
theorem perm_rel {α β : Type} {R : α → β → Prop} {l l' : List α} (hp : l.Perm l') : ∀ m : List β, All2 R l m → ∃ m', m.Perm m' ∧ All2 R l' m' := by
  induction hp with
  | nil => exact fun m h => ⟨m, List.Perm.refl _, h⟩
  | cons x _ ih =>
    intro m h
    cases m with
    | nil => exact h.elim
    | cons y m =>
      obtain ⟨m', h1, h2⟩ := ih m h.2
      exact ⟨y :: m', h1.cons y, h.1, h2⟩
  | swap x y l =>
    intro m h
    cases m with
    | nil => exact h.elim
    | cons a m =>
      cases m with
      | nil => exact h.2.elim
      | cons b m => exact ⟨b :: a :: m, List.Perm.swap b a m, h.2.1, h.1, h.2.2⟩
  | trans _ _ ih1 ih2 =>
    intro m h
    obtain ⟨m1, h1, h2⟩ := ih1 m h
    obtain ⟨m2, h3, h4⟩ := ih2 m1 h2
    exact ⟨m2, h1.trans h3, h4⟩
theorem all2_of {α β : Type} {R : α → β → Prop} : ∀ {l : List α} {m : List β}, l.length = m.length → (∀ (i : Nat) x y, l[i]? = some x → m[i]? = some y → R x y) → All2 R l m
  | [], [], _, _ => trivial
  | x :: l, y :: m, h, hR => ⟨hR 0 x y rfl rfl, all2_of (by simpa using h) (fun i a b ha hb => hR (i + 1) a b (by simpa using ha) (by simpa using hb))⟩
  | [], _ :: _, h, _ => by simp at h
  | _ :: _, [], h, _ => by simp at h
theorem all2_len {α β : Type} {R : α → β → Prop} : ∀ {l : List α} {m : List β}, All2 R l m → l.length = m.length
  | [], [], _ => rfl
  | _ :: _, _ :: _, h => by rw [List.length_cons, List.length_cons, all2_len h.2]
  | [], _ :: _, h => h.elim
  | _ :: _, [], h => h.elim
theorem all2_at {α β : Type} {R : α → β → Prop} : ∀ {l : List α} {m : List β}, All2 R l m → ∀ (i : Nat) x y, l[i]? = some x → m[i]? = some y → R x y
  | x :: l, y :: m, h, 0, a, b, ha, hb => by
    obtain rfl : x = a := by simpa using ha
    obtain rfl : y = b := by simpa using hb
    exact h.1
  | x :: l, y :: m, h, i + 1, a, b, ha, hb => all2_at h.2 i a b (by simpa using ha) (by simpa using hb)
  | [], [], _, _, _, _, ha, _ => by simp at ha
  | [], _ :: _, h, _, _, _, _, _ => h.elim
  | _ :: _, [], h, _, _, _, _, _ => h.elim
theorem all_perm {es : List FE} {d : Array FE} (h : PermIn 0 es.length es.toArray d) : es.Perm d.toList := by
  obtain ⟨h1, _, h3⟩ := h
  have hd : d.extract 0 es.length = d := by
    rw [show es.length = d.size by rw [h1]; simp]
    exact Array.extract_size
  have he : es.toArray.extract 0 es.length = es.toArray := by
    rw [show es.length = es.toArray.size by simp]
    exact Array.extract_size
  rw [hd, he] at h3
  exact h3.symm
/-- The row as a slice of fields. -/
theorem rdF_turn {w : World} {S : Nat → Prop} {g cap : Nat} {d : Array FE} {fs : List (ByteArray × PVal)} (hS : S g) (hR : RowE w g 0 d) (ha : All2 (ReadE w S) d.toList fs) (hc : fs.length ≤ cap) (hcm : cap ≤ 9223372036854775807) (hn : fs.length ≤ 1466015503701) :
    RdF w S (fs.map Prod.fst) (fs.map Prod.snd) (.slice (some ⟨g, 0, none⟩) fs.length cap) := by
  have hl : d.toList.length = fs.length := all2_len ha
  have hget : ∀ (i : Nat) (hi : i < fs.length), d.toList[i]? = some d[i]! := fun i hi => by
    have hid : i < d.size := by rw [← hl] at hi; simpa using hi
    simp [hid]
  refine ⟨by simp, fun a ha2 => ?_, some ⟨g, 0, none⟩, cap, fun i => d[i]!.val, by simp, by simpa using hc, ⟨hcm, by simpa using hn⟩, .inr ⟨g, 0, rfl, hS, fun i hi j v hv => ?_⟩, fun i x hx => ?_⟩
  · obtain ⟨f, hf, rfl⟩ := List.mem_map.1 ha2
    obtain ⟨i, hi⟩ := List.getElem?_of_mem hf
    exact (all2_at ha i _ f (hget i (List.getElem?_eq_some_iff.1 hi).1) hi).2.1
  · rw [List.length_map] at hi
    have hid : i < d.size := by rw [← hl] at hi; simpa using hi
    have hf : fs[i]? = some fs[i] := List.getElem?_eq_getElem hi
    have h9 := all2_at ha i _ _ (hget i hi) hf
    have hnm : (fs.map Prod.fst).getD i ByteArray.empty = d[i]!.nm := by
      rw [h9.1]; simp [List.getD, hf]
    refine hR.2.1 i hid j v ?_
    simp only [hnm] at hv
    exact hv
  · rw [List.getElem?_map] at hx
    obtain ⟨f, hf, rfl⟩ := Option.map_eq_some_iff.1 hx
    exact (all2_at ha i _ f (hget i (List.getElem?_eq_some_iff.1 hf).1) hf).2.2
end Go.Proofs.YtckdgmjekfpcjaaDoor
