/- Rows of acts on a pool. -/
import Derived.Test.YteclmkmemecckaaDoorWalive5
import Derived.Test.YteclmkmemecckaaDoorWrows
namespace Go.Proofs.YteclmkmemecckaaDoor
open Go.RowKit Wb
/-- The acts of a row, as it is read. -/
def Acts (w : World) (A : Option Addr) (l : List (Int × Int × Int)) : Prop :=
  ∀ k d a b, l[k]? = some (d, a, b) → (0 ≤ d ∧ d < 256) ∧ ∃ ad, A = some ad ∧ ad.block < w.heap.size ∧ w.cell? (ad.add (k * 3)) = some (.int .u8 d) ∧
    w.cell? ⟨(ad.add (k * 3)).block, (ad.add (k * 3)).off + 1, none⟩ = some (.int .i64 a) ∧ w.cell? ⟨(ad.add (k * 3)).block, (ad.add (k * 3)).off + 2, none⟩ = some (.int .i64 b)
theorem Acts.below {w w' : World} {A : Option Addr} {l : List (Int × Int × Int)} (h : Acts w A l) (hb : Below w.heap.size w w') : Acts w' A l := by
  intro k d a b hk
  obtain ⟨hd, ad, e, hB, h1, h2, h3⟩ := h k d a b hk
  refine ⟨hd, ad, e, Nat.lt_of_lt_of_le hB hb.size, ?_, ?_, ?_⟩
  · rw [hb.cell (p := ad.add (k * 3)) (by rw [add_block]; exact hB)]; exact h1
  · rw [hb.cell (p := ⟨(ad.add (k * 3)).block, (ad.add (k * 3)).off + 1, none⟩) (by show (ad.add (k * 3)).block < _; rw [add_block]; exact hB)]; exact h2
  · rw [hb.cell (p := ⟨(ad.add (k * 3)).block, (ad.add (k * 3)).off + 2, none⟩) (by show (ad.add (k * 3)).block < _; rw [add_block]; exact hB)]; exact h3
theorem Acts.upon {w w' : World} {B : Nat} {A : Option Addr} {l : List (Int × Int × Int)} (h : Acts w A l) (hB : w.heap.size ≤ B) (hb : Below B w w') : Acts w' A l := h.below (hb.mono hB)
end Go.Proofs.YteclmkmemecckaaDoor
