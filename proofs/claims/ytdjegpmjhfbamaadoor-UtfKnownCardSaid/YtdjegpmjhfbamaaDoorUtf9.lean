/-
  Walk: the law UtfKnown.
-/
import Derived.Test.YtdjegpmjhfbamaaDoorUtf8
namespace Go.Proofs.YtdjegpmjhfbamaaDoor
open Go.RowKit Go.Proofs

/-- A call that tells v and makes at most new memory, wherever the tables lie. -/
def Says (f : FuncId) (args : Array Value) (v : Value) : Prop := ∀ w, Tabs w → Calls Tryd.prog f args w fun e w' => e = .returned v ∧ Below w.heap.size w w'

set_option maxRecDepth 100000 in
set_option maxHeartbeats 8000000 in
theorem uknown_calls (w : World) (hT : Tabs w) : Calls Tryd.prog 10 #[] w fun e w' => e = .returned (.bool true) ∧ Below w.heap.size w w' := by
  have hT := hid (fun w' hb => Tabs.stays w w' hT hb)
  have haw := hid uawake_calls
  have k1 : Hid (Says 30 #[.string ⟨#[97, 195, 164, 226, 130, 172]⟩] (.tuple #[.int .i64 3, .int .i64 0])) := fun w hT => count_calls_utf ⟨#[97, 195, 164, 226, 130, 172]⟩ (by decide) w hT
  have k2 : Hid (Says 17 #[.string ⟨#[97, 34, 10, 127]⟩] (.tuple #[.string ⟨#[34, 97, 92, 34, 92, 110, 92, 117, 48, 48, 55, 102, 34]⟩, .int .i64 0])) := fun w hT => by
    have := quote_calls ⟨#[97, 34, 10, 127]⟩ (by decide) w hT
    rw [if_pos (by rfl), if_pos (by rfl)] at this
    exact this
  have k3 : Hid (Says 18 #[.string ⟨#[34, 92, 117, 48, 48, 101, 52, 92, 47, 34]⟩] (.tuple #[.string ⟨#[195, 164, 47]⟩, .int .i64 0])) := fun w hT => unquote_calls ⟨#[34, 92, 117, 48, 48, 101, 52, 92, 47, 34]⟩ (by decide) w hT
  have k4 : Hid (Says 18 #[.string ⟨#[34, 92, 117, 100, 56, 51, 100, 92, 117, 100, 101, 48, 48, 34]⟩] (.tuple #[.string ⟨#[240, 159, 152, 128]⟩, .int .i64 0])) := fun w hT => unquote_calls ⟨#[34, 92, 117, 100, 56, 51, 100, 92, 117, 100, 101, 48, 48, 34]⟩ (by decide) w hT
  have k5 : Hid (Says 18 #[.string ⟨#[34, 92, 117, 100, 56, 51, 100, 34]⟩] (.tuple #[.string ⟨#[]⟩, .int .i64 11])) := fun w hT => unquote_calls ⟨#[34, 92, 117, 100, 56, 51, 100, 34]⟩ (by decide) w hT
  have k6 : Hid (Says 18 #[.string ⟨#[34, 97]⟩] (.tuple #[.string ⟨#[]⟩, .int .i64 4])) := fun w hT => unquote_calls ⟨#[34, 97]⟩ (by decide) w hT
  have k7 : Hid (Says 18 #[.string ⟨#[34, 92, 113, 34]⟩] (.tuple #[.string ⟨#[]⟩, .int .i64 4])) := fun w hT => unquote_calls ⟨#[34, 92, 113, 34]⟩ (by decide) w hT
  have k8 : Hid (Says 23 #[.string ⟨#[97]⟩, .string ⟨#[97, 98]⟩] (.tuple #[.int .i64 (-1), .int .i64 0])) := fun w hT => by
    have := compare_utf ⟨#[97]⟩ ⟨#[97, 98]⟩ (by decide) (by decide) w hT
    rw [if_pos ⟨by rfl, by rfl⟩, if_pos ⟨by rfl, by rfl⟩] at this
    exact this
  have k9 : Hid (Says 31 #[.string ⟨#[97, 195, 164, 98]⟩, .int .i64 1, .int .i64 2] (.tuple #[.string ⟨#[195, 164]⟩, .int .i64 0])) := fun w hT => cut_calls ⟨#[97, 195, 164, 98]⟩ (by decide) 1 2 ⟨by decide, by decide⟩ ⟨by decide, by decide⟩ w hT
  have k10 : Hid (Says 31 #[.string ⟨#[97]⟩, .int .i64 1, .int .i64 0] (.tuple #[.string ⟨#[]⟩, .int .i64 1])) := fun w hT => cut_calls ⟨#[97]⟩ (by decide) 1 0 ⟨by decide, by decide⟩ ⟨by decide, by decide⟩ w hT
  have k11 : Hid (Says 24 #[.string ⟨#[192, 128]⟩] (.bool false)) := fun w hT => valid_calls ⟨#[192, 128]⟩ w (by decide) hT
  have k12 : Hid (Says 24 #[.string ⟨#[237, 160, 128]⟩] (.bool false)) := fun w hT => valid_calls ⟨#[237, 160, 128]⟩ w (by decide) hT
  go_enter Tryd.func10, Tryd.ntmps10
  go_wp2_with fail
  refine (k1.out _ (hT.out _ (Below.refl _ _))).mono ?_
  rintro e w1 ⟨rfl, h1⟩
  go_wp2_with fail
  refine (k2.out _ (hT.out _ h1)).mono ?_
  rintro e w2 ⟨rfl, h2⟩
  replace h2 := h1.step h2
  go_wp2_with fail
  refine (k3.out _ (hT.out _ h2)).mono ?_
  rintro e w3 ⟨rfl, h3⟩
  replace h3 := h2.step h3
  go_wp2_with fail
  refine (k4.out _ (hT.out _ h3)).mono ?_
  rintro e w4 ⟨rfl, h4⟩
  replace h4 := h3.step h4
  go_wp2_with fail
  refine (k5.out _ (hT.out _ h4)).mono ?_
  rintro e w5 ⟨rfl, h5⟩
  replace h5 := h4.step h5
  go_wp2_with fail
  refine (k6.out _ (hT.out _ h5)).mono ?_
  rintro e w6 ⟨rfl, h6⟩
  replace h6 := h5.step h6
  go_wp2_with fail
  refine (k7.out _ (hT.out _ h6)).mono ?_
  rintro e w7 ⟨rfl, h7⟩
  replace h7 := h6.step h7
  go_wp2_with fail
  refine (k8.out _ (hT.out _ h7)).mono ?_
  rintro e w8 ⟨rfl, h8⟩
  replace h8 := h7.step h8
  go_wp2_with fail
  refine (k9.out _ (hT.out _ h8)).mono ?_
  rintro e w9 ⟨rfl, h9⟩
  replace h9 := h8.step h9
  go_wp2_with fail
  refine (k10.out _ (hT.out _ h9)).mono ?_
  rintro e w10 ⟨rfl, h10⟩
  replace h10 := h9.step h10
  go_wp2_with fail
  refine (haw.out _ (hT.out _ h10)).mono ?_
  rintro e w11 ⟨rfl, h11⟩
  replace h11 := h10.step h11
  go_wp2_with fail
  refine (k11.out _ (hT.out _ h11)).mono ?_
  rintro e w12 ⟨rfl, h12⟩
  replace h12 := h11.step h12
  go_wp2_with fail
  refine (k12.out _ (hT.out _ h12)).mono ?_
  rintro e w13 ⟨rfl, h13⟩
  replace h13 := h12.step h13
  go_wp2_with fail
  go_ret
  exact ⟨rfl, h13⟩
end Go.Proofs.YtdjegpmjhfbamaaDoor
