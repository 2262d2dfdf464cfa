/-
  Slices of bytes in new memory.
-/
import Derived.Test.YtdjegpmjhfbamaaDoorBuf
import Derived.WalkKit
import Derived.Test.YtdjegpmjhfbamaaDoorProg
namespace Go.Proofs.YtdjegpmjhfbamaaDoor
open Go.RowKit Go.Proofs

theorem info_u8 : (Tryd.prog.info? 5).map (fun i => (i.zero, i.size, i.bytes)) = some (some (.int .u8 0), 1, 1) := by kernel_rfl
theorem byte8 : ∃ i, Byte8 Tryd.prog 45 5 i := by
  obtain ⟨i, hi, hz0, hz1, hz2⟩ := info_parts info_u8
  exact ⟨i, Tryd.underlying45, hi, hz0, hz1, hz2⟩

/-- New memory, and a slice of these bytes in it. -/
def Made (w w' : World) (l : List UInt8) (v : Value) : Prop := ∃ g cap, v = .slice (some ⟨g, 0, none⟩) l.length cap ∧ Buf w.heap.size 5 w w' l v

theorem Made.below {w w' : World} {l : List UInt8} {v : Value} (h : Made w w' l v) : Below w.heap.size w w' := by
  obtain ⟨_, _, _, hb⟩ := h
  exact hb.below
theorem Made.src {w w' : World} {l : List UInt8} {g n c : Nat} (h : Made w w' l (.slice (some ⟨g, 0, none⟩) n c)) : n = l.length ∧ Src w' g l := by
  obtain ⟨g', c', hv, hb⟩ := h
  injection hv with h1 h2 h3
  exact ⟨h2, hb.src⟩
theorem made_of {w wr : World} {o : Obj} {l : List UInt8} {v : Value} (h : Buf (w.alloc o).heap.size 5 (w.alloc o) wr l v) (hl : l ≠ []) : Made w wr l v := by
  have hb := h.base (B' := w.heap.size) (W0' := w) (by simp) (below_new w o)
  obtain ⟨g, cap, hv, _⟩ := h.form hl
  exact ⟨g, cap, hv, hb⟩
end Go.Proofs.YtdjegpmjhfbamaaDoor
