/- Rows of pairs that the call makes; two arrays stored behind two loads, in whatever order. -/
import Derived.Test.YteclmkmemecckaaDoorEdge
namespace Go.Proofs.YteclmkmemecckaaDoor
open Go.RowKit Wb

theorem wp_region_two {ty0 n0 ty1 n1 : Nat} (T0 : ArrT ty0 n0) (T1 : ArrT ty1 n1) {i0 i1 j0 j1 s0 s1 g0 g1 h0 h1 : Nat} {c0 c1 e0 e1 : Array Value} {a : Act} {w : World} {Q : Exit → Act → World → Prop} {id : Nat} {p0 p1 p2 p3 : String} {u0 u1 u2 u3 : TypeId}
    (hi0 : a.eval (.tmp i0) = .pointer (some ⟨g0, 0, none⟩)) (hi1 : a.eval (.tmp i1) = .pointer (some ⟨g1, 0, none⟩)) (hj0 : a.eval (.tmp j0) = .pointer (some ⟨h0, 0, none⟩)) (hj1 : a.eval (.tmp j1) = .pointer (some ⟨h1, 0, none⟩))
    (hd : (s0 ≠ i1 ∧ s0 ≠ j0 ∧ s0 ≠ j1 ∧ s1 ≠ i0 ∧ s1 ≠ j0 ∧ s1 ≠ j1 ∧ s0 ≠ s1) ∧ s0 < a.tmps.size ∧ s1 < a.tmps.size)
    (hg0 : row? w g0 = some c0) (hg1 : row? w g1 = some c1) (hh0 : row? w h0 = some e0) (hh1 : row? w h1 = some e1)
    (hb : g0 ≠ h0 ∧ g1 ≠ h0 ∧ h0 ≠ h1) (hc0 : c0.size = n0) (hc1 : c1.size = n1) (he0 : e0.size = n0) (he1 : e1.size = n1) (ho0 : c0.all (·.oneCell') = true) (ho1 : c1.all (·.oneCell') = true)
    (hQ : Q .normal ((a.put (some s0) (.agg c0)).put (some s1) (.agg c1)) ((w.drew.setRow h0 c0).setRow h1 c1)) :
    (Code.region id
      #[{ dst := some s0, op := .load ty0 (.tmp i0), type := u0, pos := p0, after := #[], guard := none },
        { dst := some s1, op := .load ty1 (.tmp i1), type := u1, pos := p1, after := #[{ on := 2, ground := .gcOnly .lateStores }], guard := none },
        { dst := none, op := .store ty0 (.tmp j0) (.tmp s0), type := u2, pos := p2, after := #[{ on := 0, ground := .data }, { on := 0, ground := .phase }, { on := 1, ground := .textOnly .lateStores }], guard := none },
        { dst := none, op := .store ty1 (.tmp j1) (.tmp s1), type := u3, pos := p3, after := #[{ on := 1, ground := .data }, { on := 2, ground := .chain }, { on := 0, ground := .phase }, { on := 1, ground := .phase }, { on := 2, ground := .phase }], guard := none }] true).wp Tryd.prog Q a w := by
  obtain ⟨⟨d1, d2, d3, d4, d5, d6, d7⟩, z0, z1⟩ := hd
  obtain ⟨b1, b2, b3⟩ := hb
  refine wp_region_any (by kernel_rfl) ?_
  have hdr : ({ w with drawn := w.drawn + 1 } : World) = w.drew := rfl
  rw [hdr]
  have r1 : row? (w.drew.setRow h0 c0) g1 = some c1 := by rw [row?_setRow_other _ _ _ b2]; exact hg1
  have r2 : row? (w.drew.setRow h0 c0) h1 = some e1 := by rw [row?_setRow_other _ _ _ (Ne.symm b3)]; exact hh1
  have e1' : ((a.put (some s0) (.agg c0)).put (some s1) (.agg c1)).eval (.tmp j0) = .pointer (some ⟨h0, 0, none⟩) := by rw [eval_put_ne d5, eval_put_ne d2]; exact hj0
  have e2' : ((a.put (some s0) (.agg c0)).put (some s1) (.agg c1)).eval (.tmp s0) = .agg c0 := by rw [eval_put_ne (Ne.symm d7), eval_put_eq z0]
  have e3' : ((a.put (some s0) (.agg c0)).put (some s1) (.agg c1)).eval (.tmp j1) = .pointer (some ⟨h1, 0, none⟩) := by rw [eval_put_ne d6, eval_put_ne d3]; exact hj1
  have e4' : ((a.put (some s0) (.agg c0)).put (some s1) (.agg c1)).eval (.tmp s1) = .agg c1 := eval_put_eq (by rw [put_size]; exact z1)
  refine wpAny_all (rs := [0, 1]) (by kernel_rfl) (by simp) ?_
  intro i hi
  simp only [List.mem_cons, List.not_mem_nil, or_false] at hi
  rcases hi with rfl | rfl
  · refine wpOp_load T0 rfl hi0 hg0 hc0 ?_
    refine wpAny_all (rs := [1, 2]) (by kernel_rfl) (by simp) ?_
    intro i hi
    simp only [List.mem_cons, List.not_mem_nil, or_false] at hi
    rcases hi with rfl | rfl
    · refine wpOp_load T1 rfl (by rw [eval_put_ne d1]; exact hi1) hg1 hc1 ?_
      refine wpAny_all (rs := [2]) (by kernel_rfl) (by simp) ?_
      intro i hi
      simp only [List.mem_cons, List.not_mem_nil, or_false] at hi
      subst hi
      refine wpOp_store T0 rfl e1' e2' hh0 he0 hc0 ho0 ?_
      refine wpAny_all (rs := [3]) (by kernel_rfl) (by simp) ?_
      intro i hi
      simp only [List.mem_cons, List.not_mem_nil, or_false] at hi
      subst hi
      refine wpOp_store T1 rfl (by rw [put_none]; exact e3') (by rw [put_none]; exact e4') r2 he1 hc1 ho1 ?_
      exact wpAny_done (by kernel_rfl) hQ _
    · refine wpOp_store T0 rfl (by rw [eval_put_ne d2]; exact hj0) (eval_put_eq z0) hh0 he0 hc0 ho0 ?_
      refine wpAny_all (rs := [1]) (by kernel_rfl) (by simp) ?_
      intro i hi
      simp only [List.mem_cons, List.not_mem_nil, or_false] at hi
      subst hi
      refine wpOp_load T1 rfl (by rw [put_none, eval_put_ne d1]; exact hi1) r1 hc1 ?_
      refine wpAny_all (rs := [3]) (by kernel_rfl) (by simp) ?_
      intro i hi
      simp only [List.mem_cons, List.not_mem_nil, or_false] at hi
      subst hi
      refine wpOp_store T1 rfl (by rw [put_none]; exact e3') (by rw [put_none]; exact e4') r2 he1 hc1 ho1 ?_
      exact wpAny_done (by kernel_rfl) hQ _
  · refine wpOp_load T1 rfl hi1 hg1 hc1 ?_
    refine wpAny_all (rs := [0]) (by kernel_rfl) (by simp) ?_
    intro i hi
    simp only [List.mem_cons, List.not_mem_nil, or_false] at hi
    subst hi
    refine wpOp_load T0 rfl (by rw [eval_put_ne d4]; exact hi0) hg0 hc0 ?_
    rw [put_comm (Ne.symm d7)]
    refine wpAny_all (rs := [2]) (by kernel_rfl) (by simp) ?_
    intro i hi
    simp only [List.mem_cons, List.not_mem_nil, or_false] at hi
    subst hi
    refine wpOp_store T0 rfl e1' e2' hh0 he0 hc0 ho0 ?_
    refine wpAny_all (rs := [3]) (by kernel_rfl) (by simp) ?_
    intro i hi
    simp only [List.mem_cons, List.not_mem_nil, or_false] at hi
    subst hi
    refine wpOp_store T1 rfl (by rw [put_none]; exact e3') (by rw [put_none]; exact e4') r2 he1 hc1 ho1 ?_
    exact wpAny_done (by kernel_rfl) hQ _

/-! ### rows of pairs of whole numbers, made by the call -/
def flat2 (l : List (Int × Int)) : List Value := l.flatMap fun e => [.int .i64 e.1, .int .i64 e.2]
theorem flat2_length (l : List (Int × Int)) : (flat2 l).length = l.length * 2 := by
  unfold flat2
  induction l with
  | nil => rfl
  | cons e l ih => rw [List.flatMap_cons, List.length_append, ih]; simp; omega
theorem flat2_append (l r : List (Int × Int)) : flat2 (l ++ r) = flat2 l ++ flat2 r := by unfold flat2; rw [List.flatMap_append]
theorem flat2_get {l : List (Int × Int)} : ∀ {k : Nat} {a b : Int}, l[k]? = some (a, b) → (flat2 l)[k * 2]? = some (.int .i64 a) ∧ (flat2 l)[k * 2 + 1]? = some (.int .i64 b) := by
  induction l with
  | nil => intro k a b h; simp at h
  | cons e l ih =>
    intro k a b h
    have hf : flat2 (e :: l) = .int .i64 e.1 :: .int .i64 e.2 :: flat2 l := rfl
    cases k with
    | zero => simp at h; subst h; rw [hf]; exact ⟨rfl, rfl⟩
    | succ k =>
      have := ih (k := k) (a := a) (b := b) (by simpa using h)
      rw [hf]
      have e1 : (k + 1) * 2 = k * 2 + 1 + 1 := by omega
      rw [e1]
      exact ⟨by simpa using this.1, by simpa using this.2⟩
def Own2 (w : World) (B : Nat) (v : Value) (l : List (Int × Int)) : Prop := w.ownsRow B 24 2 v l.length (flat2 l)
theorem Own2.nil (w : World) (B : Nat) : Own2 w B (.slice none 0 0) [] := World.ownsRow_nil w B _ 2
theorem Own2.next {w w' : World} {B : Nat} {v : Value} {l : List (Int × Int)} (h : Own2 w B v l) (hb : Below w.heap.size w w') : Own2 w' B v l := by
  refine ⟨h.1, ?_⟩
  rcases h.2 with hn | ⟨g, cap, cur, rfl, hB, hgg, rest⟩
  · exact .inl hn
  · exact .inr ⟨g, cap, cur, rfl, hB, by rw [hb.block g (Array.getElem?_eq_some_iff.1 hgg).1]; exact hgg, rest⟩
theorem Own2.lt {w : World} {B : Nat} {v : Value} {l : List (Int × Int)} (h : Own2 w B v l) : ∀ k, v.ownBlock = some k → B ≤ k ∧ k < w.heap.size := World.ownsRow.lt h
theorem Own2.open {w : World} {B : Nat} {v : Value} {l : List (Int × Int)} (h : Own2 w B v l) :
    (v = .slice none 0 0 ∧ l = []) ∨ ∃ g cap, v = .slice (some ⟨g, 0, none⟩) l.length cap ∧ B ≤ g ∧ g < w.heap.size ∧ l.length ≤ cap ∧ cap ≤ maxLen ∧
      ∀ k a b, l[k]? = some (a, b) → w.cell? ⟨g, k * 2, none⟩ = some (.int .i64 a) ∧ w.cell? ⟨g, k * 2 + 1, none⟩ = some (.int .i64 b) := by
  rcases h.2 with ⟨rfl, hn⟩ | ⟨g, cap, cur, rfl, hb, hgg, hc, hm, hs, ht⟩
  · exact .inl ⟨rfl, List.length_eq_zero_iff.1 hn⟩
  · refine .inr ⟨g, cap, rfl, hb, (Array.getElem?_eq_some_iff.1 hgg).1, hc, hm, fun k a b hk => ?_⟩
    have hcell : ∀ j x, (flat2 l)[j]? = some x → w.cell? ⟨g, j, none⟩ = some x := by
      intro j x hx
      rw [cell_of_row w g j cur _ (0, 0) hgg]
      rw [← ht, List.getElem?_take] at hx
      split at hx
      · simpa using hx
      · cases hx
    obtain ⟨h1, h2⟩ := flat2_get hk
    exact ⟨hcell _ _ h1, hcell _ _ h2⟩
theorem Own2.other {w : World} {B : Nat} {v : Value} {l : List (Int × Int)} (h : Own2 w B v l) {g : Nat} (hg : g < B) (c : Array Value) : Own2 (w.setRow g c) B v l := by
  refine ⟨h.1, ?_⟩
  rcases h.2 with hn | ⟨g', cap, cur, rfl, hB, hgg, rest⟩
  · exact .inl hn
  · exact .inr ⟨g', cap, cur, rfl, hB, by rw [setRow_other w g g' c (by omega)]; exact hgg, rest⟩
theorem pairInfo : (Tryd.prog.info? 24).map (fun i => (i.zero, i.size, i.bytes)) = some (some (.agg #[.int .i64 0, .int .i64 0]), 2, 16) := by kernel_rfl
theorem wpList_append_pair {ops : Array Oper} {rest : List Oper} {o : Oper} {a : Act} {w : World} {Q : Exit → Act → World → Prop} (hgd : o.guard = none) (s x : Operand)
    (ho : o.op = .call { callee := .builtin .append, args := #[s, x], argTypes := #[22, 22] })
    (B : Nat) (v : Value) (l : List (Int × Int)) (hs : a.eval s = v) (hown : Own2 w B v l)
    (g : Nat) (p q : Int) (hx : a.eval x = .slice (some ⟨g, 0, none⟩) 1 1) (h0 : w.cell? ⟨g, 0, none⟩ = some (.int .i64 p)) (h1 : w.cell? ⟨g, 1, none⟩ = some (.int .i64 q))
    (hlen : l.length + 1 ≤ 1000000) (hbase : B ≤ w.heap.size)
    (h : ∀ v' w', Own2 w' B v' (l ++ [(p, q)]) → w.grownBy w' v.ownBlock → wpList Tryd.prog ops Q rest (a.put o.dst v') w') : wpList Tryd.prog ops Q (o :: rest) a w := by
  obtain ⟨i0, hi, hz0, hz1, hz2⟩ := info_parts pairInfo
  have hnews : ∀ j u, ([.int .i64 p, .int .i64 q] : List Value)[j]? = some u → w.cell? ((⟨g, 0, none⟩ : Addr).add j) = some u := by
    intro j u hu
    rw [addr_add0]
    match j, hu with
    | 0, hu => simp at hu; subst hu; exact h0
    | 1, hu => simp at hu; subst hu; exact h1
    | j + 2, hu => simp at hu
  have hone : ∀ u ∈ ([.int .i64 p, .int .i64 q] : List Value), u.oneCell' = true := by
    intro u hu
    simp only [List.mem_cons, List.not_mem_nil, or_false] at hu
    rcases hu with rfl | rfl <;> rfl
  obtain ⟨v', w', hr, hown', hgr, _⟩ := run_append_own (P := Tryd.prog) w B 22 o.type 24 i0 (.agg #[.int .i64 0, .int .i64 0]) 2 16 Tryd.underlying22 hi hz0 hz1 hz2 rfl (by decide) v l.length _ hown ⟨g, 0, none⟩ 1 1 [.int .i64 p, .int .i64 q] rfl hnews hone (by unfold maxLen; omega) (by omega) hbase
  refine wpList_plain hgd fun K hK => ?_
  unfold Oper.wp execOp
  simp only [ho, resolve, invoke, builtin, Sem.run_bind, Sem.run_pure, Result.andThen_ok, List.map_toArray, List.map_cons, List.map_nil, hs, hx, hr]
  refine hK _ _ (h v' w' ?_ hgr)
  unfold Own2
  rw [flat2_append, List.length_append]
  exact hown'
theorem Own2.len {w : World} {B : Nat} {v : Value} {l : List (Int × Int)} (h : Own2 w B v l) (W : World) : (Builtin.len_ #[22] 3 #[v]).run Tryd.prog W = .ok (.int .i64 l.length) W := by
  rcases h.open with ⟨rfl, rfl⟩ | ⟨g, cap, rfl, _⟩
  · simp [Builtin.len_, go_sem]
  · simp [Builtin.len_, go_sem]
end Go.Proofs.YteclmkmemecckaaDoor
