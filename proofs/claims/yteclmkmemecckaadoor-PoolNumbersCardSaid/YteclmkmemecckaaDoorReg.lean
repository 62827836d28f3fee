/- A region that draws its order: two arrays are read, and stored as results, and a constant is assigned. -/
import Derived.Test.YteclmkmemecckaaDoorExt
namespace Go.Proofs.YteclmkmemecckaaDoor
open Go.RowKit Wb

theorem eval_put_ne {a : Act} {d k : Nat} {v : Value} (h : d ≠ k) : (a.put (some d) v).eval (.tmp k) = a.eval (.tmp k) := by
  simp [Act.put, Act.eval, Array.getElem?_setIfInBounds_ne h]
theorem eval_put_eq {a : Act} {d : Nat} {v : Value} (h : d < a.tmps.size) : (a.put (some d) v).eval (.tmp d) = v := by
  simp [Act.put, Act.eval, h]
theorem put_none {a : Act} {v : Value} : a.put none v = a := rfl
theorem put_comm {a : Act} {d k : Nat} {u v : Value} (h : d ≠ k) : (a.put (some d) u).put (some k) v = (a.put (some k) v).put (some d) u := by
  simp only [Act.put]; congr 1; exact Array.setIfInBounds_comm _ _ h
theorem put_size {a : Act} {d : Option Nat} {v : Value} : (a.put d v).tmps.size = a.tmps.size := by
  cases d <;> simp [Act.put]
section
variable {ops : Array Oper} {a : Act} {w : World} {Q : Exit → Act → World → Prop} {K : Act → World → Prop} {d : Option Tmp} {t0 : TypeId} {ps : String} {af : Array Edge} {i : Nat}
theorem wpOp_load {ty n g : Nat} {c : Array Value} (T : ArrT ty n) {x : Operand} (ho : ops[i]? = some { dst := d, op := .load ty x, type := t0, pos := ps, after := af, guard := none })
    (hx : a.eval x = .pointer (some ⟨g, 0, none⟩)) (hg : row? w g = some c) (hn : c.size = n) (h : K (a.put d (.agg c)) w) : wpOp Tryd.prog ops Q i K a w := by
  refine wpOp_step ho fun K' hK => ?_
  rw [if_pos (show Region.wanted _ _ = true by simp [Region.wanted])]
  have hl := run_loadVar_seg T w g 0 c hg (by omega)
  rw [Nat.zero_add, extract_all c n hn] at hl
  unfold Oper.wp execOp
  simp only [hx, Instr.loadAt, Instr.sureAddr, Sem.run_bind, Sem.run_pure, Result.andThen_ok, hl]
  exact hK _ _ h
theorem wpOp_store {ty n g : Nat} {c e : Array Value} (T : ArrT ty n) {x y : Operand} (ho : ops[i]? = some { dst := d, op := .store ty x y, type := t0, pos := ps, after := af, guard := none })
    (hx : a.eval x = .pointer (some ⟨g, 0, none⟩)) (hy : a.eval y = .agg c) (hg : row? w g = some e) (he : e.size = n) (hn : c.size = n) (h1 : c.all (·.oneCell') = true) (h : K (a.put d undef) (w.setRow g c)) : wpOp Tryd.prog ops Q i K a w := by
  refine wpOp_step ho fun K' hK => ?_
  rw [if_pos (show Region.wanted _ _ = true by simp [Region.wanted])]
  have hl := run_storeVar_seg T w g 0 e c hg (by omega) hn h1
  rw [splice_all e c (by omega)] at hl
  unfold Oper.wp execOp
  simp only [hx, hy, Instr.storeAt, Instr.sureAddr, Sem.run_bind, Sem.run_pure, Result.andThen_ok, hl]
  exact hK _ _ h
theorem wpOp_assign {v : Value} (ho : ops[i]? = some { dst := d, op := .assign (.const v), type := t0, pos := ps, after := af, guard := none })
    (h : K (a.put d v) w) : wpOp Tryd.prog ops Q i K a w := by
  refine wpOp_step ho fun K' hK => ?_
  rw [if_pos (show Region.wanted _ _ = true by simp [Region.wanted])]
  unfold Oper.wp execOp
  simp only [Sem.run_pure, Act.eval]
  exact hK _ _ h
end

theorem wp_region_ret2 {ty0 n0 ty1 n1 : Nat} (T0 : ArrT ty0 n0) (T1 : ArrT ty1 n1) {i0 i1 j0 j1 s0 s1 s2 g0 g1 h0 h1 : Nat} {c0 c1 e0 e1 : Array Value} {v : Value} {a : Act} {w : World} {Q : Exit → Act → World → Prop} {id : Nat} {p0 p1 p2 p3 p4 : String} {u0 u1 u2 u3 u4 : TypeId}
    (hi0 : a.eval (.tmp i0) = .pointer (some ⟨g0, 0, none⟩)) (hi1 : a.eval (.tmp i1) = .pointer (some ⟨g1, 0, none⟩)) (hj0 : a.eval (.tmp j0) = .pointer (some ⟨h0, 0, none⟩)) (hj1 : a.eval (.tmp j1) = .pointer (some ⟨h1, 0, none⟩))
    (hd : (s0 ≠ i1 ∧ s0 ≠ j0 ∧ s0 ≠ j1 ∧ s1 ≠ i0 ∧ s1 ≠ j0 ∧ s1 ≠ j1 ∧ s0 ≠ s1) ∧ s0 < a.tmps.size ∧ s1 < a.tmps.size)
    (hg0 : row? w g0 = some c0) (hg1 : row? w g1 = some c1) (hh0 : row? w h0 = some e0) (hh1 : row? w h1 = some e1)
    (hb : g0 ≠ h0 ∧ g1 ≠ h0 ∧ h0 ≠ h1) (hc0 : c0.size = n0) (hc1 : c1.size = n1) (he0 : e0.size = n0) (he1 : e1.size = n1) (ho0 : c0.all (·.oneCell') = true) (ho1 : c1.all (·.oneCell') = true)
    (hQ : Q .normal (((a.put (some s0) (.agg c0)).put (some s1) (.agg c1)).put (some s2) v) ((w.drew.setRow h0 c0).setRow h1 c1)) :
    (Code.region id
      #[{ dst := some s0, op := .load ty0 (.tmp i0), type := u0, pos := p0, after := #[], guard := none },
        { dst := some s1, op := .load ty1 (.tmp i1), type := u1, pos := p1, after := #[{ on := 2, ground := .gcOnly .lateStores }], guard := none },
        { dst := none, op := .store ty0 (.tmp j0) (.tmp s0), type := u2, pos := p2, after := #[{ on := 0, ground := .data }, { on := 0, ground := .phase }, { on := 1, ground := .textOnly .lateStores }], guard := none },
        { dst := none, op := .store ty1 (.tmp j1) (.tmp s1), type := u3, pos := p3, after := #[{ on := 1, ground := .data }, { on := 2, ground := .chain }, { on := 0, ground := .phase }, { on := 1, ground := .phase }, { on := 2, ground := .phase }], guard := none },
        { dst := some s2, op := .assign (.const v), type := u4, pos := p4, after := #[{ on := 3, ground := .chain }, { on := 0, ground := .phase }, { on := 1, ground := .phase }, { on := 2, ground := .phase }, { on := 3, ground := .phase }], guard := none }] true).wp Tryd.prog Q a w := by
  obtain ⟨⟨d1, d2, d3, d4, d5, d6, d7⟩, z0, z1⟩ := hd
  obtain ⟨b1, b2, b3⟩ := hb
  refine wp_region_any (by kernel_rfl) ?_
  have hdr : ({ w with drawn := w.drawn + 1 } : World) = w.drew := rfl
  rw [hdr]
  have r1 : row? (w.drew.setRow h0 c0) g1 = some c1 := by rw [row?_setRow_other _ _ _ b2]; exact hg1
  have r2 : row? (w.drew.setRow h0 c0) h1 = some e1 := by rw [row?_setRow_other _ _ _ (Ne.symm b3)]; exact hh1
  have e1' : ((a.put (some s0) (.agg c0)).put (some s1) (.agg c1)).eval (.tmp j0) = .pointer (some ⟨h0, 0, none⟩) := by rw [eval_put_ne d5, eval_put_ne d2]; exact hj0
  have e2' : ((a.put (some s0) (.agg c0)).put (some s1) (.agg c1)).eval (.tmp s0) = .agg c0 := by rw [eval_put_ne (Ne.symm d7), eval_put_eq z0]
  have e3' : ((a.put (some s0) (.agg c0)).put (some s1) (.agg c1)).eval (.tmp j1) = .pointer (some ⟨h1, 0, none⟩) := by rw [eval_put_ne d6, eval_put_ne d3]; exact hj1
  have e4' : ((a.put (some s0) (.agg c0)).put (some s1) (.agg c1)).eval (.tmp s1) = .agg c1 := eval_put_eq (by rw [put_size]; exact z1)
  refine wpAny_all (rs := [0, 1]) (by kernel_rfl) (by simp) ?_
  intro i hi
  simp only [List.mem_cons, List.not_mem_nil, or_false] at hi
  rcases hi with rfl | rfl
  · refine wpOp_load T0 rfl hi0 hg0 hc0 ?_
    refine wpAny_all (rs := [1, 2]) (by kernel_rfl) (by simp) ?_
    intro i hi
    simp only [List.mem_cons, List.not_mem_nil, or_false] at hi
    rcases hi with rfl | rfl
    · refine wpOp_load T1 rfl (by rw [eval_put_ne d1]; exact hi1) hg1 hc1 ?_
      refine wpAny_all (rs := [2]) (by kernel_rfl) (by simp) ?_
      intro i hi
      simp only [List.mem_cons, List.not_mem_nil, or_false] at hi
      subst hi
      refine wpOp_store T0 rfl e1' e2' hh0 he0 hc0 ho0 ?_
      refine wpAny_all (rs := [3]) (by kernel_rfl) (by simp) ?_
      intro i hi
      simp only [List.mem_cons, List.not_mem_nil, or_false] at hi
      subst hi
      refine wpOp_store T1 rfl (by rw [put_none]; exact e3') (by rw [put_none]; exact e4') r2 he1 hc1 ho1 ?_
      refine wpAny_all (rs := [4]) (by kernel_rfl) (by simp) ?_
      intro i hi
      simp only [List.mem_cons, List.not_mem_nil, or_false] at hi
      subst hi
      refine wpOp_assign rfl ?_
      exact wpAny_done (by kernel_rfl) hQ _
    · refine wpOp_store T0 rfl (by rw [eval_put_ne d2]; exact hj0) (eval_put_eq z0) hh0 he0 hc0 ho0 ?_
      refine wpAny_all (rs := [1]) (by kernel_rfl) (by simp) ?_
      intro i hi
      simp only [List.mem_cons, List.not_mem_nil, or_false] at hi
      subst hi
      refine wpOp_load T1 rfl (by rw [put_none, eval_put_ne d1]; exact hi1) r1 hc1 ?_
      refine wpAny_all (rs := [3]) (by kernel_rfl) (by simp) ?_
      intro i hi
      simp only [List.mem_cons, List.not_mem_nil, or_false] at hi
      subst hi
      refine wpOp_store T1 rfl (by rw [put_none]; exact e3') (by rw [put_none]; exact e4') r2 he1 hc1 ho1 ?_
      refine wpAny_all (rs := [4]) (by kernel_rfl) (by simp) ?_
      intro i hi
      simp only [List.mem_cons, List.not_mem_nil, or_false] at hi
      subst hi
      refine wpOp_assign rfl ?_
      exact wpAny_done (by kernel_rfl) hQ _
  · refine wpOp_load T1 rfl hi1 hg1 hc1 ?_
    refine wpAny_all (rs := [0]) (by kernel_rfl) (by simp) ?_
    intro i hi
    simp only [List.mem_cons, List.not_mem_nil, or_false] at hi
    subst hi
    refine wpOp_load T0 rfl (by rw [eval_put_ne d4]; exact hi0) hg0 hc0 ?_
    rw [put_comm (Ne.symm d7)]
    refine wpAny_all (rs := [2]) (by kernel_rfl) (by simp) ?_
    intro i hi
    simp only [List.mem_cons, List.not_mem_nil, or_false] at hi
    subst hi
    refine wpOp_store T0 rfl e1' e2' hh0 he0 hc0 ho0 ?_
    refine wpAny_all (rs := [3]) (by kernel_rfl) (by simp) ?_
    intro i hi
    simp only [List.mem_cons, List.not_mem_nil, or_false] at hi
    subst hi
    refine wpOp_store T1 rfl (by rw [put_none]; exact e3') (by rw [put_none]; exact e4') r2 he1 hc1 ho1 ?_
    refine wpAny_all (rs := [4]) (by kernel_rfl) (by simp) ?_
    intro i hi
    simp only [List.mem_cons, List.not_mem_nil, or_false] at hi
    subst hi
    refine wpOp_assign rfl ?_
    exact wpAny_done (by kernel_rfl) hQ _
end Go.Proofs.YteclmkmemecckaaDoor
