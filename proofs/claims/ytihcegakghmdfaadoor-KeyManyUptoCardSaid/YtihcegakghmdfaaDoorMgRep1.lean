/-
  Walks: the reference's List, Reply.
-/
import Derived.Test.YtihcegakghmdfaaDoorMgHel
import Derived.Test.YtihcegakghmdfaaDoorMgVal19
import Derived.Test.YtihcegakghmdfaaDoorMgVal10
namespace Go.Proofs.YtihcegakghmdfaaDoor
open Go.RowKit Go.Proofs

theorem rd_loose {w : World} {S : Nat → Prop} {l : List PVal} {la : Option Addr} {c : Nat} (h : RdL w S l (.slice la l.length c)) : Rd w S (.mk 0 0 ByteArray.empty l [] []) [.int .i64 0, .int .i64 0, .string ByteArray.empty, .slice la l.length c, .slice none 0 0] := by
  obtain ⟨la', cap, cs, hv, h1, h2, h3, h4⟩ := h
  injection hv with e1 e2 e3
  subst e1 e3
  exact .mk (fv := []) (fn := []) cs (fun _ => []) ⟨by decide, by decide⟩ ⟨by decide, by decide⟩ (by decide) (by simp) rfl h1 h2 (Nat.le_refl _) ⟨by decide, by decide⟩ h3 h4 (.inl rfl) (fun i x hx => by simp at hx)

set_option maxRecDepth 100000 in
theorem rlist_calls (l : List PVal) {w : World} {la la' : Option Addr} {c c' : Nat} (h : RdL w (Now w) l (.slice la l.length c)) (h' : RdL w (Now w) l (.slice la' l.length c')) :
    Calls Tryd.prog 44 #[.slice la l.length c, .slice la' l.length c'] w fun e w' => e = .returned (.bool true) ∧ Below w.heap.size w w' := by
  have hs := hid (same_calls (.mk 0 0 ByteArray.empty l [] []) (.mk 0 0 ByteArray.empty l [] []) true (by simp) w _ _ (rd_loose h) (rd_loose h'))
  clear h h'
  go_enter Tryd.func44, Tryd.ntmps44
  go_wp2_with fail
  refine hs.out.mono ?_
  rintro e w1 ⟨rfl, h1⟩
  go_wp2_with fail
  go_ret
  exact ⟨rfl, h1⟩

set_option maxRecDepth 100000 in
theorem rreply_calls (E N : Int) (l : List PVal) {w : World} {la la' : Option Addr} {c c' : Nat} (h : RdL w (Now w) l (.slice la l.length c)) (h' : RdL w (Now w) l (.slice la' l.length c')) :
    Calls Tryd.prog 57 #[.agg #[.int .i64 E, .int .i64 N, .slice la l.length c], .agg #[.int .i64 E, .int .i64 N, .slice la' l.length c']] w fun e w' => e = .returned (.bool true) ∧ Below w.heap.size w w' := by
  have hB := hid ((below_new w (.cells #[.int .i64 E, .int .i64 N, .slice la l.length c] 82)).step (below_new _ (.cells #[.int .i64 E, .int .i64 N, .slice la' l.length c'] 82)))
  have hs := hid (fun (w' : World) (hb : Below w.heap.size w w') => rlist_calls l (h.later hb) (h'.later hb))
  clear h h'
  go_enter Tryd.func57, Tryd.ntmps57
  go_wp2_with fail
  refine (hs.out _ hB.out).mono ?_
  rintro e w1 ⟨rfl, h1⟩
  go_wp2_with fail
  go_ret
  exact ⟨rfl, hB.out.step h1⟩
end Go.Proofs.YtihcegakghmdfaaDoor
