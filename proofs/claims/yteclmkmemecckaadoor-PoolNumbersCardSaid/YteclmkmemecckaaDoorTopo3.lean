/- What Insert's turn does to an order: plain Lean. -/
import Derived.Test.YteclmkmemecckaaDoorTopo2
namespace Wb

theorem put_ok {m : M} {a b : Int} (h : (put m a b).2 = true) : (0 ≤ a ∧ a < 32) ∧ (0 ≤ b ∧ b < 32) ∧ a ≠ b := by
  unfold put at h
  split at h
  · cases h
  · rename_i hc
    simp only [Bool.or_eq_true, Bool.not_eq_true', not_or, Bool.not_eq_false, beq_iff_eq, node_eq, decide_eq_true_eq] at hc
    exact ⟨hc.1.1, hc.1.2, hc.2⟩
theorem put_edge {m : M} {a b : Int} (h : (put m a b).2 = true) (x y : Int) : Edge (put m a b).1 x y ↔ Edge m x y ∨ (x = a ∧ y = b) := by
  obtain ⟨ha, hb, hne⟩ := put_ok h
  have e : (put m a b).1 = upd m a.toNat (wth (m a.toNat) b) := by
    unfold put at h ⊢
    split
    · rename_i hc; rw [if_pos hc] at h; cases h
    · rfl
  rw [e]
  unfold Edge
  by_cases hx : x.toNat = a.toNat
  · simp only [upd, hx, if_true, has_wth]
    constructor
    · rintro ⟨h1, h2, h3⟩
      simp only [Bool.or_eq_true, Bool.and_eq_true, decide_eq_true_eq] at h3
      rcases h3 with h3 | h3
      · exact .inl ⟨h1, h2, h3⟩
      · exact .inr ⟨by omega, by omega⟩
    · rintro (⟨h1, h2, h3⟩ | ⟨h1, h2⟩)
      · exact ⟨h1, h2, by rw [h3]; rfl⟩
      · refine ⟨by omega, by omega, ?_⟩
        simp only [Bool.or_eq_true, Bool.and_eq_true, decide_eq_true_eq]
        exact .inr (by omega)
  · simp only [upd, if_neg hx]
    constructor
    · intro h1; exact .inl h1
    · rintro (h1 | ⟨h1, h2⟩)
      · exact h1
      · exact absurd (by rw [h1]) hx

section
variable {m : M} {o : O} {a b : Int}
/-- The edges go up. -/
def Up (m : M) (o : O) : Prop := ∀ x y, Edge m x y → o x.toNat < o y.toNat
theorem Up.goes (h : Up m o) {x y : Int} (g : Goes m x y) : o x.toNat < o y.toNat := by
  induction g with
  | one e => exact h _ _ e
  | more _ e ih => have := h _ _ e; omega
theorem mem_fore (hU : Up m o) (_ : 0 ≤ a ∧ a < 32) (hb : 0 ≤ b ∧ b < 32) (k : Int) : has (foreOf m o a b) k = true ↔ k = b ∨ (Goes m b k ∧ o k.toNat ≤ o a.toNat) := by
  unfold foreOf
  rw [has_near (by omega)]
  constructor
  · intro h
    induction h with
    | here => exact .inl rfl
    | more _ h1 h2 ih =>
      have e := (outs_iff _ _ _).1 h1
      refine .inr ⟨?_, by simpa using h2⟩
      rcases ih with rfl | ⟨g, _⟩
      · exact .one e
      · exact .more g e
  · rintro (rfl | ⟨g, h⟩)
    · exact .here
    · induction g with
      | one e => exact .more .here ((outs_iff _ _ _).2 e) (by simpa using h)
      | more _ e ih => exact .more (ih (by have := hU _ _ e; omega)) ((outs_iff _ _ _).2 e) (by simpa using h)
theorem mem_hind (hU : Up m o) (ha : 0 ≤ a ∧ a < 32) (_ : 0 ≤ b ∧ b < 32) (k : Int) : has (hindOf m o a b) k = true ↔ k = a ∨ (Goes m k a ∧ o b.toNat ≤ o k.toNat) := by
  unfold hindOf
  rw [has_near (by omega)]
  constructor
  · intro h
    induction h with
    | here => exact .inl rfl
    | more _ h1 h2 ih =>
      have e := (ins_iff _ _ _).1 h1
      refine .inr ⟨?_, by simpa using h2⟩
      rcases ih with rfl | ⟨g, _⟩
      · exact .one e
      · exact .head e g
  · rintro (rfl | ⟨g, h⟩)
    · exact .here
    · have key : ∀ {x y : Int}, Goes m x y → ∀ {z : Int}, Near (ins m) (fun i => decide (o i.toNat ≥ o b.toNat)) z y → o b.toNat ≤ o x.toNat → Near (ins m) (fun i => decide (o i.toNat ≥ o b.toNat)) z x := by
        intro x y g
        induction g with
        | one e => intro z hz hx; exact .more hz ((ins_iff _ _ _).2 e) (by simpa using hx)
        | @more i y g e ih =>
          intro z hz hx
          have h1 := hU.goes g
          exact ih (.more hz ((ins_iff _ _ _).2 e) (by simp; omega)) hx
      exact key g .here h
theorem fore_a (hU : Up m o) (ha : 0 ≤ a ∧ a < 32) (hb : 0 ≤ b ∧ b < 32) (hne : a ≠ b) : has (foreOf m o a b) a = true ↔ Goes m b a := by
  rw [mem_fore hU ha hb]
  constructor
  · rintro (h | h)
    · exact absurd h hne
    · exact h.1
  · intro h; exact .inr ⟨h, Int.le_refl _⟩
end

/-- All that the turn has to know. -/
structure Turn (m : M) (o : O) (a b : Int) : Prop where
  up : Up m o
  right : Right o
  ha : 0 ≤ a ∧ a < 32
  hb : 0 ≤ b ∧ b < 32
  ne : a ≠ b
  le : o b.toNat ≤ o a.toNat
  no : ¬ Goes m b a

namespace Turn
variable {m : M} {o : O} {a b : Int}
theorem apart (T : Turn m o a b) (k : Int) (h1 : has (foreOf m o a b) k = true) (h2 : has (hindOf m o a b) k = true) : False := by
  rw [mem_fore T.up T.ha T.hb] at h1
  rw [mem_hind T.up T.ha T.hb] at h2
  rcases h1 with rfl | ⟨g, _⟩ <;> rcases h2 with h2 | ⟨g2, _⟩
  · exact T.ne h2.symm
  · exact T.no g2
  · subst h2; exact T.no g
  · exact T.no (g.trans g2)
theorem memF (T : Turn m o a b) (x : Int) : x ∈ byO o (foreOf m o a b) ↔ has (foreOf m o a b) x = true := by
  rw [mem_byO T.right]
  refine ⟨fun h => h.2, fun h => ⟨?_, h⟩⟩
  rcases (mem_fore T.up T.ha T.hb x).1 h with rfl | ⟨g, _⟩
  · exact T.hb
  · exact g.right
theorem memH (T : Turn m o a b) (x : Int) : x ∈ byO o (hindOf m o a b) ↔ has (hindOf m o a b) x = true := by
  rw [mem_byO T.right]
  refine ⟨fun h => h.2, fun h => ⟨?_, h⟩⟩
  rcases (mem_hind T.up T.ha T.hb x).1 h with rfl | ⟨g, _⟩
  · exact T.ha
  · exact g.left
theorem memU (T : Turn m o a b) (x : Int) : x ∈ byO o (foreOf m o a b ||| hindOf m o a b) ↔ x ∈ byO o (foreOf m o a b) ∨ x ∈ byO o (hindOf m o a b) := by
  simp only [mem_byO T.right, has_or, Bool.or_eq_true]
  constructor
  · rintro ⟨h, h1 | h1⟩
    · exact .inl ⟨h, h1⟩
    · exact .inr ⟨h, h1⟩
  · rintro (⟨h, h1⟩ | ⟨h, h1⟩)
    · exact ⟨h, .inl h1⟩
    · exact ⟨h, .inr h1⟩
theorem nodup_by (h : Right o) (s : S) : (byO o s).Nodup := (byO_sorted h s).imp (fun h e => by subst e; omega)
theorem nodupL (T : Turn m o a b) : (byO o (hindOf m o a b) ++ byO o (foreOf m o a b)).Nodup := by
  rw [List.nodup_append]
  refine ⟨nodup_by T.right _, nodup_by T.right _, ?_⟩
  rintro x hx y hy rfl
  exact T.apart x ((T.memF x).1 hy) ((T.memH x).1 hx)
theorem len (T : Turn m o a b) : (byO o (foreOf m o a b ||| hindOf m o a b)).length = (byO o (hindOf m o a b) ++ byO o (foreOf m o a b)).length := by
  have h1 : ∀ x ∈ byO o (foreOf m o a b ||| hindOf m o a b), x ∈ byO o (hindOf m o a b) ++ byO o (foreOf m o a b) := by
    intro x hx; rw [T.memU] at hx; rw [List.mem_append]; exact hx.symm
  have h2 : ∀ x ∈ byO o (hindOf m o a b) ++ byO o (foreOf m o a b), x ∈ byO o (foreOf m o a b ||| hindOf m o a b) := by
    intro x hx; rw [T.memU]; rw [List.mem_append] at hx; exact hx.symm
  rcases Nat.le_total (byO o (foreOf m o a b ||| hindOf m o a b)).length (byO o (hindOf m o a b) ++ byO o (foreOf m o a b)).length with h | h
  · exact (perm_of_sub T.nodupL h2 h).length_eq.symm
  · exact (perm_of_sub (nodup_by T.right _) h1 h).length_eq
/-- The turned order. -/
abbrev q (m : M) (o : O) (a b : Int) : O := insertO o (foreOf m o a b) (hindOf m o a b)
/-- The places. -/
abbrev P (m : M) (o : O) (a b : Int) : List Int := (byO o (foreOf m o a b ||| hindOf m o a b)).map (fun x => o x.toNat)
theorem plen (T : Turn m o a b) : (P m o a b).length = (byO o (hindOf m o a b)).length + (byO o (foreOf m o a b)).length := by
  rw [List.length_map, T.len, List.length_append]
theorem prise (T : Turn m o a b) : (P m o a b).Pairwise (· < ·) := by
  rw [List.pairwise_map]; exact byO_sorted T.right _
theorem inU (T : Turn m o a b) (x : Int) (h : x ∈ byO o (foreOf m o a b ||| hindOf m o a b)) : (0 ≤ x ∧ x < 32) ∧ o b.toNat ≤ o x.toNat ∧ o x.toNat ≤ o a.toNat := by
  refine ⟨((mem_byO T.right _ _).1 h).1, ?_⟩
  rcases (T.memU x).1 h with h | h
  · rcases (mem_fore T.up T.ha T.hb x).1 ((T.memF x).1 h) with rfl | ⟨g, h2⟩
    · exact ⟨Int.le_refl _, T.le⟩
    · exact ⟨Int.le_of_lt (T.up.goes g), h2⟩
  · rcases (mem_hind T.up T.ha T.hb x).1 ((T.memH x).1 h) with rfl | ⟨g, h2⟩
    · exact ⟨T.le, Int.le_refl _⟩
    · exact ⟨h2, Int.le_of_lt (T.up.goes g)⟩
theorem pval (T : Turn m o a b) (y : Int) (h : y ∈ P m o a b) : o b.toNat ≤ y ∧ y ≤ o a.toNat := by
  obtain ⟨u, hu, rfl⟩ := List.mem_map.1 h
  exact (T.inU u hu).2
theorem nonneg (T : Turn m o a b) (x : Int) (h : x ∈ byO o (hindOf m o a b) ++ byO o (foreOf m o a b)) : 0 ≤ x ∧ x < 32 := by
  rcases List.mem_append.1 h with h | h <;> exact ((mem_byO T.right _ _).1 h).1
theorem qget (T : Turn m o a b) (j : Nat) (hl : j < (byO o (hindOf m o a b) ++ byO o (foreOf m o a b)).length) (hp : j < (P m o a b).length) : q m o a b ((byO o (hindOf m o a b) ++ byO o (foreOf m o a b))[j]).toNat = (P m o a b)[j] :=
  writeAt_get _ _ o j hl hp T.nodupL (fun x hx => (T.nonneg x hx).1)
theorem qother (T : Turn m o a b) (x : Int) (h0 : 0 ≤ x) (h : x ∉ byO o (foreOf m o a b ||| hindOf m o a b)) : q m o a b x.toNat = o x.toNat := by
  refine writeAt_other _ _ o _ fun y hy e => ?_
  have := T.nonneg y hy
  have hxy : y = x := by omega
  subst hxy
  exact h ((T.memU y).2 (List.mem_append.1 hy).symm)
theorem byO_sub (o : O) {s t : S} (h : ∀ x, has s x = true → has t x = true) : (byO o s).Sublist (byO o t) := by
  have : byO o s = (byO o t).filter (has s) := by
    unfold byO
    rw [List.filter_filter]
    apply List.filter_congr
    intro x _
    cases hs : has s x with
    | false => rfl
    | true => simp [h x hs]
  rw [this]
  exact List.filter_sublist
theorem qH (T : Turn m o a b) (j : Nat) (h : j < (byO o (hindOf m o a b)).length) : ∃ hp : j < (P m o a b).length, q m o a b ((byO o (hindOf m o a b))[j]).toNat = (P m o a b)[j] ∧ (P m o a b)[j] ≤ o ((byO o (hindOf m o a b))[j]).toNat := by
  have hl := T.plen
  refine ⟨by omega, ?_, ?_⟩
  · have := T.qget j (by rw [List.length_append]; omega) (by omega)
    rw [List.getElem_append_left h] at this
    exact this
  · have hs : ((byO o (hindOf m o a b)).map (fun x => o x.toNat)).Sublist (P m o a b) := (byO_sub o (by intro x hx; rw [has_or, hx]; simp)).map _
    have h2 := sub_ge hs T.prise j (by simpa using h) (by omega)
    have h3 : ((byO o (hindOf m o a b)).map (fun x => o x.toNat))[j]'(by simpa using h) = o ((byO o (hindOf m o a b))[j]).toNat := List.getElem_map _
    rw [h3] at h2
    exact h2
theorem qF (T : Turn m o a b) (j : Nat) (h : j < (byO o (foreOf m o a b)).length) : ∃ hp : (byO o (hindOf m o a b)).length + j < (P m o a b).length, q m o a b ((byO o (foreOf m o a b))[j]).toNat = (P m o a b)[(byO o (hindOf m o a b)).length + j] ∧ o ((byO o (foreOf m o a b))[j]).toNat ≤ (P m o a b)[(byO o (hindOf m o a b)).length + j] := by
  have hl := T.plen
  refine ⟨by omega, ?_, ?_⟩
  · have := T.qget ((byO o (hindOf m o a b)).length + j) (by rw [List.length_append]; omega) (by omega)
    rw [List.getElem_append_right (by omega)] at this
    simp only [Nat.add_sub_cancel_left] at this
    exact this
  · have hs : ((byO o (foreOf m o a b)).map (fun x => o x.toNat)).Sublist (P m o a b) := (byO_sub o (by intro x hx; rw [has_or, hx]; simp)).map _
    have e0 : ((byO o (foreOf m o a b)).map (fun x => o x.toNat)).length = (byO o (foreOf m o a b)).length := List.length_map ..
    have h2 := sub_le hs T.prise j (by simpa using h) (by omega)
    have h3 : ((byO o (foreOf m o a b)).map (fun x => o x.toNat))[j]'(by simpa using h) = o ((byO o (foreOf m o a b))[j]).toNat := List.getElem_map _
    rw [h3] at h2
    have e : (P m o a b).length - ((byO o (foreOf m o a b)).map (fun x => o x.toNat)).length + j = (byO o (hindOf m o a b)).length + j := by omega
    simp only [e] at h2
    exact h2
/-- Where a node of the region goes: its place is the one at its index. -/
theorem qU (T : Turn m o a b) (x : Int) (h : x ∈ byO o (foreOf m o a b ||| hindOf m o a b)) : q m o a b x.toNat ∈ P m o a b := by
  rcases (T.memU x).1 h with h | h
  · obtain ⟨j, hj, rfl⟩ := List.getElem_of_mem h
    obtain ⟨hp, h1, _⟩ := T.qF j hj
    rw [h1]; exact List.getElem_mem _
  · obtain ⟨j, hj, rfl⟩ := List.getElem_of_mem h
    obtain ⟨hp, h1, _⟩ := T.qH j hj
    rw [h1]; exact List.getElem_mem _
theorem plt (T : Turn m o a b) {i j : Nat} (hi : i < (P m o a b).length) (hj : j < (P m o a b).length) (h : i < j) : (P m o a b)[i] < (P m o a b)[j] := List.pairwise_iff_getElem.1 T.prise i j hi hj h
theorem isH (T : Turn m o a b) {x : Int} (h : x ∈ byO o (hindOf m o a b)) : x = a ∨ (Goes m x a ∧ o b.toNat ≤ o x.toNat) := (mem_hind T.up T.ha T.hb x).1 ((T.memH x).1 h)
theorem isF (T : Turn m o a b) {x : Int} (h : x ∈ byO o (foreOf m o a b)) : x = b ∨ (Goes m b x ∧ o x.toNat ≤ o a.toNat) := (mem_fore T.up T.ha T.hb x).1 ((T.memF x).1 h)
theorem index_lt {l : List Int} (hl : l.Pairwise (fun x y => o x.toNat < o y.toNat)) {i j : Nat} (hi : i < l.length) (hj : j < l.length) (h : o l[i].toNat < o l[j].toNat) : i < j := by
  rcases Nat.lt_or_ge i j with h1 | h1
  · exact h1
  · rcases Nat.eq_or_lt_of_le h1 with h2 | h2
    · subst h2; omega
    · have := List.pairwise_iff_getElem.1 hl j i hj hi h2; omega
theorem upAB (T : Turn m o a b) : q m o a b a.toNat < q m o a b b.toNat := by
  have h1 : a ∈ byO o (hindOf m o a b) := (T.memH a).2 ((mem_hind T.up T.ha T.hb a).2 (.inl rfl))
  have h2 : b ∈ byO o (foreOf m o a b) := (T.memF b).2 ((mem_fore T.up T.ha T.hb b).2 (.inl rfl))
  obtain ⟨i, hi, e1⟩ := List.getElem_of_mem h1
  obtain ⟨j, hj, e2⟩ := List.getElem_of_mem h2
  obtain ⟨hp, h3, _⟩ := T.qH i hi
  obtain ⟨hp2, h4, _⟩ := T.qF j hj
  rw [e1] at h3; rw [e2] at h4
  rw [h3, h4]
  exact T.plt hp hp2 (by omega)
theorem upM (T : Turn m o a b) : Up m (q m o a b) := by
  intro x y e
  have hlt := T.up x y e
  by_cases hx : x ∈ byO o (foreOf m o a b ||| hindOf m o a b)
  · rcases (T.memU x).1 hx with hxF | hxH
    · -- ahead of nothing but what comes behind
      by_cases hy : y ∈ byO o (foreOf m o a b ||| hindOf m o a b)
      · rcases (T.memU y).1 hy with hyF | hyH
        · obtain ⟨i, hi, e1⟩ := List.getElem_of_mem hxF
          obtain ⟨j, hj, e2⟩ := List.getElem_of_mem hyF
          obtain ⟨hp, h3, _⟩ := T.qF i hi
          obtain ⟨hp2, h4, _⟩ := T.qF j hj
          rw [e1] at h3; rw [e2] at h4
          rw [h3, h4]
          have := index_lt (byO_sorted T.right _) hi hj (by rw [e1, e2]; exact hlt)
          exact T.plt hp hp2 (by omega)
        · exfalso
          have gby : Goes m b y := by
            rcases T.isF hxF with rfl | ⟨g, _⟩
            · exact .one e
            · exact .more g e
          rcases T.isH hyH with rfl | ⟨g, _⟩
          · exact T.no gby
          · exact T.no (gby.trans g)
      · have gby : Goes m b y := by
          rcases T.isF hxF with rfl | ⟨g, _⟩
          · exact .one e
          · exact .more g e
        have hya : o a.toNat < o y.toNat := by
          rcases Int.lt_or_le (o a.toNat) (o y.toNat) with h | h
          · exact h
          · exact absurd ((T.memU y).2 (.inl ((T.memF y).2 ((mem_fore T.up T.ha T.hb y).2 (.inr ⟨gby, h⟩))))) hy
        rw [T.qother y e.2.1.1 hy]
        have := T.pval _ (T.qU x hx)
        omega
    · obtain ⟨i, hi, e1⟩ := List.getElem_of_mem hxH
      obtain ⟨hp, h3, h5⟩ := T.qH i hi
      rw [e1] at h3 h5
      by_cases hy : y ∈ byO o (foreOf m o a b ||| hindOf m o a b)
      · rcases (T.memU y).1 hy with hyF | hyH
        · obtain ⟨j, hj, e2⟩ := List.getElem_of_mem hyF
          obtain ⟨hp2, h4, _⟩ := T.qF j hj
          rw [e2] at h4
          rw [h3, h4]
          exact T.plt hp hp2 (by omega)
        · obtain ⟨j, hj, e2⟩ := List.getElem_of_mem hyH
          obtain ⟨hp2, h4, _⟩ := T.qH j hj
          rw [e2] at h4
          rw [h3, h4]
          exact T.plt hp hp2 (index_lt (byO_sorted T.right _) hi hj (by rw [e1, e2]; exact hlt))
      · rw [T.qother y e.2.1.1 hy, h3]; omega
  · rw [T.qother x e.1.1 hx]
    by_cases hy : y ∈ byO o (foreOf m o a b ||| hindOf m o a b)
    · rcases (T.memU y).1 hy with hyF | hyH
      · obtain ⟨j, hj, e2⟩ := List.getElem_of_mem hyF
        obtain ⟨hp2, h4, h5⟩ := T.qF j hj
        rw [e2] at h4 h5
        rw [h4]; omega
      · have gxa : Goes m x a := by
          rcases T.isH hyH with rfl | ⟨g, _⟩
          · exact .one e
          · exact .head e g
        have hxb : o x.toNat < o b.toNat := by
          rcases Int.lt_or_le (o x.toNat) (o b.toNat) with h | h
          · exact h
          · exact absurd ((T.memU x).2 (.inr ((T.memH x).2 ((mem_hind T.up T.ha T.hb x).2 (.inr ⟨gxa, h⟩))))) hx
        have := T.pval _ (T.qU y hy)
        omega
    · rw [T.qother y e.2.1.1 hy]; exact hlt
theorem nodupP (T : Turn m o a b) : (P m o a b).Nodup := T.prise.imp (fun h e => by omega)
theorem cell (T : Turn m o a b) (x : Int) (h : x ∈ byO o (foreOf m o a b ||| hindOf m o a b)) : ∃ j, ∃ hl : j < (byO o (hindOf m o a b) ++ byO o (foreOf m o a b)).length, ∃ hp : j < (P m o a b).length, x = (byO o (hindOf m o a b) ++ byO o (foreOf m o a b))[j] ∧ q m o a b x.toNat = (P m o a b)[j] := by
  have h1 : x ∈ byO o (hindOf m o a b) ++ byO o (foreOf m o a b) := List.mem_append.2 ((T.memU x).1 h).symm
  obtain ⟨j, hj, e⟩ := List.getElem_of_mem h1
  have hl := T.plen
  have hj2 := hj
  rw [List.length_append] at hj2
  exact ⟨j, hj, by omega, e.symm, by rw [← e]; exact T.qget j hj (by omega)⟩
theorem rightQ (T : Turn m o a b) : Right (q m o a b) := by
  have all : ∀ i, i < 32 → (∃ y, y ∈ P m o a b ∧ q m o a b i = y ∧ (i : Int) ∈ byO o (foreOf m o a b ||| hindOf m o a b)) ∨ (q m o a b i = o i ∧ (i : Int) ∉ byO o (foreOf m o a b ||| hindOf m o a b)) := by
    intro i hi
    by_cases h : (i : Int) ∈ byO o (foreOf m o a b ||| hindOf m o a b)
    · exact .inl ⟨_, T.qU _ h, rfl, h⟩
    · exact .inr ⟨T.qother i (by omega) h, h⟩
  have bds : ∀ i, i < 32 → 0 ≤ q m o a b i ∧ q m o a b i < 32 := by
    intro i hi
    rcases all i hi with ⟨y, hy, e, _⟩ | ⟨e, _⟩
    · have := T.pval y hy
      have h1 := T.right.lo b.toNat (by have := T.hb; omega)
      have h2 := T.right.hi a.toNat (by have := T.ha; omega)
      omega
    · have h1 := T.right.lo i hi
      have h2 := T.right.hi i hi
      omega
  refine ⟨fun i hi => (bds i hi).1, fun i hi => (bds i hi).2, ?_, ?_⟩
  · intro i j hi hj e
    rcases all i hi with ⟨y, hy, e1, h1⟩ | ⟨e1, h1⟩ <;> rcases all j hj with ⟨z, hz, e2, h2⟩ | ⟨e2, h2⟩
    · obtain ⟨k, hk, hp, ek, qk⟩ := T.cell _ h1
      obtain ⟨l, hl, hp2, el, ql⟩ := T.cell _ h2
      have hkl : (P m o a b)[k] = (P m o a b)[l] := by rw [← qk, ← ql]; exact e
      have hkl2 : k = l := by
        rcases Nat.lt_trichotomy k l with h | h | h
        · have := T.plt hp hp2 h; omega
        · exact h
        · have := T.plt hp2 hp h; omega
      subst hkl2
      have : (i : Int) = j := by rw [ek, el]
      omega
    · exfalso
      obtain ⟨u, hu, e3⟩ := List.mem_map.1 hy
      have hu2 := T.inU u hu
      have : u.toNat = j := T.right.inj _ _ (by omega) hj (by omega)
      have : u = (j : Int) := by omega
      subst this
      exact h2 hu
    · exfalso
      obtain ⟨u, hu, e3⟩ := List.mem_map.1 hz
      have hu2 := T.inU u hu
      have : u.toNat = i := T.right.inj _ _ (by omega) hi (by omega)
      have : u = (i : Int) := by omega
      subst this
      exact h1 hu
    · exact T.right.inj _ _ hi hj (by omega)
  · intro p h0 h1
    obtain ⟨i, hi, e⟩ := T.right.onto p h0 h1
    rcases all i hi with ⟨y, hy, e1, h2⟩ | ⟨e1, _⟩
    · have hp : p ∈ P m o a b := List.mem_map.2 ⟨(i : Int), h2, by simpa using e⟩
      obtain ⟨k, hk, e2⟩ := List.getElem_of_mem hp
      have hl := T.plen
      have hk2 : k < (byO o (hindOf m o a b) ++ byO o (foreOf m o a b)).length := by rw [List.length_append]; omega
      have h3 := T.nonneg _ (List.getElem_mem hk2)
      refine ⟨((byO o (hindOf m o a b) ++ byO o (foreOf m o a b))[k]).toNat, by omega, ?_⟩
      have h4 := T.qget k hk2 hk
      rw [e2] at h4
      exact h4
    · exact ⟨i, hi, by rw [e1]; exact e⟩
/-- A place is between those of both ends ahead of the turn just if it is behind it; others stay. -/
theorem keeps (T : Turn m o a b) (i : Nat) (hi : i < 32) : ((o b.toNat ≤ o i ∧ o i ≤ o a.toNat) ↔ (o b.toNat ≤ q m o a b i ∧ q m o a b i ≤ o a.toNat)) ∧ (¬ (o b.toNat ≤ o i ∧ o i ≤ o a.toNat) → q m o a b i = o i) := by
  by_cases h : (i : Int) ∈ byO o (foreOf m o a b ||| hindOf m o a b)
  · have h1 := (T.inU _ h).2
    have h2 := T.pval _ (T.qU _ h)
    simp only [Int.toNat_natCast] at h1 h2
    exact ⟨⟨fun _ => h2, fun _ => h1⟩, fun hn => absurd h1 hn⟩
  · have h1 := T.qother i (by omega) h
    simp only [Int.toNat_natCast] at h1
    rw [h1]
    exact ⟨Iff.rfl, fun _ => rfl⟩
end Turn
end Wb
