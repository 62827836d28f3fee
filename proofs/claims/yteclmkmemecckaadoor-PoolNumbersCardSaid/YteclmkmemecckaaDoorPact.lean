/- Plain facts on acts: what an act leaves of size and count. -/
import Derived.Test.YteclmkmemecckaaDoorWdoes
namespace Wb
def runP (p : Pl) (l : List (Int × Int × Int)) : Pl := l.foldl (fun p x => p.act x.1 x.2.1 x.2.2) p
theorem runP_snoc (p : Pl) (l : List (Int × Int × Int)) (d a b : Int) : runP p (l ++ [(d, a, b)]) = (runP p l).act d a b := by unfold runP; rw [List.foldl_append]; rfl
theorem edge_keeps (p : Pl) (a b : Int) : (p.edge a b).1.size = p.size ∧ (p.edge a b).1.count = p.count := by
  unfold Pl.edge; split
  · exact ⟨rfl, rfl⟩
  split
  · exact ⟨rfl, rfl⟩
  split <;> exact ⟨rfl, rfl⟩
theorem end_keeps (p : Pl) (a : Int) : (p.end a).1.size = p.size ∧ (p.end a).1.count = p.count := by
  unfold Pl.end; split <;> exact ⟨rfl, rfl⟩
theorem collect_keeps (n : Nat) (p : Pl) (out : List Int) : (p.collect n out).1.size = p.size ∧ (p.collect n out).1.count = p.count := by
  induction n generalizing p out with
  | zero => exact ⟨rfl, rfl⟩
  | succ n ih =>
    unfold Pl.collect
    split
    · exact ih (p.gone p.source.1) _
    · exact ⟨rfl, rfl⟩
theorem has_wth_self (s : S) (i : Int) (h0 : 0 ≤ i) (h1 : i < 64) : has (wth s i) i = true := by
  rw [has_wth]; simp [h0, h1]
theorem begin_keeps (p : Pl) : p.begin.1.size = p.size ∧ (p.begin.1.count = p.count ∨ (p.begin.1.count = p.count + 1 ∧ p.begin.1.ids p.slot.toNat = p.count + 1 ∧ has p.begin.1.live p.slot = true ∧ 0 ≤ p.slot ∧ p.slot < 32)) := by
  unfold Pl.begin; split
  · exact ⟨rfl, .inl rfl⟩
  · rename_i h
    have hr := slot_range p h
    have hc := capOf_le p.size
    obtain ⟨_, _, h3, _, h5⟩ := behind_keeps p p.slot (items p.over)
    refine ⟨h5, .inr ⟨?_, ?_, ?_, hr.1, by omega⟩⟩
    · show (p.behind p.slot (items p.over)).count + 1 = _; rw [h3]
    · show upd (p.behind p.slot (items p.over)).ids p.slot.toNat ((p.behind p.slot (items p.over)).count + 1) p.slot.toNat = _
      rw [h3]; simp [upd]
    · exact has_wth_self _ _ hr.1 (by omega)
theorem act_keeps (p : Pl) (d a b : Int) : (p.act d a b).size = p.size ∧ ((p.act d a b).count = p.count ∨ ((p.act d a b).count = p.count + 1 ∧ (p.act d a b).ids p.slot.toNat = p.count + 1 ∧ has (p.act d a b).live p.slot = true ∧ 0 ≤ p.slot ∧ p.slot < 32)) := by
  unfold Pl.act
  split
  · exact ⟨(edge_keeps p a b).1, .inl (edge_keeps p a b).2⟩
  split
  · exact ⟨(end_keeps p a).1, .inl (end_keeps p a).2⟩
  split
  · exact ⟨(collect_keeps _ p _).1, .inl (collect_keeps _ p _).2⟩
  · exact begin_keeps p
theorem runP_count (p : Pl) (l : List (Int × Int × Int)) (hp : p.count = 0) : (runP p l).size = p.size ∧ 0 ≤ (runP p l).count ∧ (runP p l).count ≤ l.length := by
  have : ∀ (l : List (Int × Int × Int)) (q : Pl), (runP q l).size = q.size ∧ q.count ≤ (runP q l).count ∧ (runP q l).count ≤ q.count + l.length := by
    intro l
    induction l with
    | nil => intro q; exact ⟨rfl, Int.le_refl _, by simp [runP]⟩
    | cons x l ih =>
      intro q
      obtain ⟨h1, h2⟩ := act_keeps q x.1 x.2.1 x.2.2
      obtain ⟨h3, h4, h5⟩ := ih (q.act x.1 x.2.1 x.2.2)
      have e : runP q (x :: l) = runP (q.act x.1 x.2.1 x.2.2) l := rfl
      rw [e]
      refine ⟨h3.trans h1, ?_, ?_⟩
      · rcases h2 with h | h <;> omega
      · rw [List.length_cons]; rcases h2 with h | h <;> push_cast <;> omega
  obtain ⟨h1, h2, h3⟩ := this l p
  exact ⟨h1, by omega, by omega⟩
/-- The free slots, as the laws write them. -/
theorem slots_shift (n : Nat) (hn : n ≤ 32) : (1#64 <<< n) - 1#64 = below n := by
  have : ∀ k : Fin 33, (1#64 <<< k.val) - 1#64 = below k.val := by decide +kernel
  exact this ⟨n, by omega⟩
end Wb
