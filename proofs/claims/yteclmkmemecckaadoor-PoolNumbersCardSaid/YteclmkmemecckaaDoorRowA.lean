/- Rows of acts, as arguments. -/
import Derived.Test.YteclmkmemecckaaDoorRowE
import Derived.Test.YteclmkmemecckaaDoorAct
namespace Go.Proofs.YteclmkmemecckaaDoor
open Go.ChangeShapes Go.WideShapes Go.ChangeAt Go.WideElems Go.RowKit Go.Deep Go.Joins Wb
section
variable {H : Type} {enc : TypeId × Value → H} {P : Program} {w : World} {base : Nat} {held : Bool}
/-- A slice of structs of a byte and two whole numbers, as its threes. -/
theorem open_threes {t e : TypeId} {f0 f1 f2 : Field} {r : Reach} {b0 : Nat} {v : Value} {d : DataW H} {p : List MemPlace} (ht : P.underlying t = some (.slice e)) (he : P.underlying e = some (.struct #[f0, f1, f2]))
    (hone : oneCellFields P #[f0, f1, f2] = true) (hC : P.cellsOf e = 3) (h0 : P.underlying f0.type = some (.int .u8)) (h1 : P.underlying f1.type = some (.int .i64)) (h2 : P.underlying f2.type = some (.int .i64))
    (hv : Value.okWide P w r b0 t v) (h : DataW.Trod enc P w base (fun _ => true) held t v d p) :
    ∃ (A : Option Addr) (n cap : Nat) (l : List (Int × Int × Int)), v = .slice A n cap ∧ l.length = n ∧ n ≤ maxLen ∧ Acts w A l := by
  obtain ⟨A, n, cap, rfl⟩ := okWide_slice ht hv
  obtain ⟨fuel, hf⟩ := h
  rcases open_slice_fields ht he hone hC hf with ⟨hc, _⟩ | ⟨a, len, cap', m, D, Pl, hcs, _, hl, hm, hmm, hx, hi⟩
  · simp only [Value.cells, List.cons.injEq, and_true] at hc
    injection hc with h1 h2 h3
    subst h1 h2 h3
    exact ⟨none, 0, 0, [], rfl, rfl, Nat.zero_le _, fun k d a b hk => by simp at hk⟩
  · simp only [Value.cells, List.cons.injEq, and_true] at hcs
    injection hcs with e1 e2 e3
    subst e1 e2 e3
    rw [if_pos rfl] at hmm
    subst hmm
    have hcell : ∀ i, i < n → ∃ d x y : Int, (Lit.int .u8 d).wf = true ∧ w.cell? (a.add (i * 3)) = some (.int .u8 d) ∧ w.cell? (a.add (i * 3 + 1)) = some (.int .i64 x) ∧ w.cell? (a.add (i * 3 + 2)) = some (.int .i64 y) := by
      intro i hin
      obtain ⟨ys, n', _, _, _, hg⟩ := hi i (by omega)
      obtain ⟨v0, y0, c0, _, t0⟩ := hg 0 f0 rfl
      obtain ⟨v1, y1, c1, _, t1⟩ := hg 1 f1 rfl
      obtain ⟨v2, y2, c2, _, t2⟩ := hg 2 f2 rfl
      obtain ⟨k0, e0, hw0⟩ := DataW.trod_int h0 t0
      obtain ⟨k1, e1, _⟩ := DataW.trod_int h1 t1
      obtain ⟨k2, e2, _⟩ := DataW.trod_int h2 t2
      simp only [List.cons.injEq, and_true] at e0 e1 e2
      subst e0 e1 e2
      exact ⟨k0, k1, k2, hw0.2, c0, c1, c2⟩
    have hblk : ∀ i, i < n → a.block < w.heap.size := by
      intro i hin
      obtain ⟨_, x, _, _, hx1, _⟩ := hcell i hin
      have := World.block_lt_of_cell? w _ hx1
      rwa [add_block] at this
    let g : Nat → Int × Int × Int := fun i => (RowKit.intOf ((w.cell? (a.add (i * 3))).getD undef), RowKit.intOf ((w.cell? (a.add (i * 3 + 1))).getD undef), RowKit.intOf ((w.cell? (a.add (i * 3 + 2))).getD undef))
    refine ⟨some a, n, _, (List.range n).map g, rfl, by simp, by omega, ?_⟩
    intro k d x y hk
    have hkn : k < n := by have := (List.getElem?_eq_some_iff.1 hk).1; simpa using this
    rw [List.getElem?_map, List.getElem?_range hkn] at hk
    obtain ⟨d', x', y', hw, h1, h2, h3⟩ := hcell k hkn
    simp only [Option.map_some, g, h1, h2, h3, Option.getD_some, Option.some.injEq, Prod.mk.injEq] at hk
    obtain ⟨e0, e1, e2⟩ := hk
    have e0' : d' = d := e0
    have e1' : x' = x := e1
    have e2' : y' = y := e2
    subst e0' e1' e2'
    refine ⟨u8_range hw, a, rfl, hblk k hkn, h1, ?_, ?_⟩
    · rw [← add_add' a (k * 3) 1] at h2
      exact h2
    · rw [← add_add' a (k * 3) 2] at h3
      exact h3
end
section
variable {H : Type} {enc : TypeId × Value → H} {w : World} {base b0 : Nat} {held : Bool} {r : Reach}
set_option maxRecDepth 100000 in
theorem open_acts {v : Value} {d : DataW H} {p : List MemPlace} (hv : Value.okWide Tryd.prog w r b0 52 v) (h : DataW.Trod enc Tryd.prog w base (fun _ => true) held 52 v d p) :
    ∃ (A : Option Addr) (n cap : Nat) (l : List (Int × Int × Int)), v = .slice A n cap ∧ l.length = n ∧ n ≤ maxLen ∧ Acts w A l :=
  open_threes Tryd.underlying52 Tryd.underlying63 (by kernel_rfl) (by kernel_rfl) Tryd.underlying5 Tryd.underlying3 Tryd.underlying3 hv h
end
end Go.Proofs.YteclmkmemecckaaDoor
