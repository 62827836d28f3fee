/- What Insert does: plain Lean. -/
import Derived.Test.YteclmkmemecckaaDoorTopo3
namespace Wb
theorem sorted_up {m : M} {o : O} (h : sorted m o = true) : Right o ∧ Up m o := (sorted_iff m o).1 h
theorem up_sorted {m : M} {o : O} (h : Right o) (h2 : Up m o) : sorted m o = true := (sorted_iff m o).2 ⟨h, h2⟩
theorem turn_of {m : M} {o : O} {a b : Int} (hs : sorted m o = true) (hp : (put m a b).2 = true) (hl : ¬ o a.toNat < o b.toNat) (hf : has (foreOf m o a b) a = false) : Turn m o a b := by
  obtain ⟨hR, hU⟩ := sorted_up hs
  obtain ⟨ha, hb, hne⟩ := put_ok hp
  refine ⟨hU, hR, ha, hb, hne, by omega, fun g => ?_⟩
  rw [(fore_a hU ha hb hne).2 g] at hf
  cases hf
/-- The four ends of Insert. -/
theorem insert_cases (m : M) (o : O) (a b : Int) :
    (((put m a b).2 = false ∨ sorted m o = false) ∧ insert m o a b = (m, o, false)) ∨
    ((put m a b).2 = true ∧ sorted m o = true ∧ o a.toNat < o b.toNat ∧ insert m o a b = ((put m a b).1, o, true)) ∨
    ((put m a b).2 = true ∧ sorted m o = true ∧ ¬ o a.toNat < o b.toNat ∧ has (foreOf m o a b) a = true ∧ insert m o a b = (m, o, false)) ∨
    ((put m a b).2 = true ∧ sorted m o = true ∧ ¬ o a.toNat < o b.toNat ∧ has (foreOf m o a b) a = false ∧ insert m o a b = ((put m a b).1, insertO o (foreOf m o a b) (hindOf m o a b), true)) := by
  unfold insert
  cases hp : (put m a b).2
  · exact .inl ⟨.inl rfl, by simp⟩
  cases hs : sorted m o
  · exact .inl ⟨.inr rfl, by simp⟩
  by_cases hl : o a.toNat < o b.toNat
  · exact .inr (.inl ⟨rfl, rfl, hl, by simp [hl]⟩)
  · cases hf : has (foreOf m o a b) a
    · exact .inr (.inr (.inr ⟨rfl, rfl, hl, rfl, by simp [hl]⟩))
    · exact .inr (.inr (.inl ⟨rfl, rfl, hl, rfl, by simp [hl]⟩))
theorem up_put {m : M} {o : O} {a b : Int} (hp : (put m a b).2 = true) (hU : Up m o) (h : o a.toNat < o b.toNat) : Up (put m a b).1 o := by
  intro x y e
  rcases (put_edge hp x y).1 e with e | ⟨rfl, rfl⟩
  · exact hU x y e
  · exact h
theorem insert_sorted {m : M} {o : O} (a b : Int) (hs : sorted m o = true) : sorted (insert m o a b).1 (insert m o a b).2.1 = true := by
  obtain ⟨hR, hU⟩ := sorted_up hs
  rcases insert_cases m o a b with ⟨_, e⟩ | ⟨hp, _, hl, e⟩ | ⟨_, _, _, _, e⟩ | ⟨hp, _, hl, hf, e⟩
  · rw [e]; exact hs
  · rw [e]; exact up_sorted hR (up_put hp hU hl)
  · rw [e]; exact hs
  · rw [e]
    have T := turn_of hs hp hl hf
    exact up_sorted T.rightQ (up_put hp T.upM T.upAB)
theorem up_free {m : M} {o : O} (h : Up m o) : free m = true := (free_iff m).2 fun i g => by have := h.goes g; omega
theorem goes_put {m : M} {a b x y : Int} (hp : (put m a b).2 = true) (g : Goes m x y) : Goes (put m a b).1 x y := by
  induction g with
  | one e => exact .one ((put_edge hp _ _).2 (.inl e))
  | more _ e ih => exact .more ih ((put_edge hp _ _).2 (.inl e))
/-- Refused just if it may not be, or closes a way round. -/
theorem insert_is {m : M} {o : O} (a b : Int) (hs : sorted m o = true) : (insert m o a b).2.2 = ((put m a b).2 && free (put m a b).1) := by
  obtain ⟨hR, hU⟩ := sorted_up hs
  rcases insert_cases m o a b with ⟨h, e⟩ | ⟨hp, _, hl, e⟩ | ⟨hp, _, _, hf, e⟩ | ⟨hp, _, hl, hf, e⟩
  · rw [e]
    rcases h with h | h
    · rw [h]; rfl
    · rw [hs] at h; cases h
  · rw [e, hp, up_free (up_put hp hU hl)]; rfl
  · rw [e, hp]
    obtain ⟨ha, hb, hne⟩ := put_ok hp
    have g := (fore_a hU ha hb hne).1 hf
    cases hfr : free (put m a b).1 with
    | false => rfl
    | true =>
      exfalso
      exact (free_iff _).1 hfr b ((goes_put hp g).more ((put_edge hp a b).2 (.inr ⟨rfl, rfl⟩)))
  · rw [e, hp]
    have T := turn_of hs hp hl hf
    rw [up_free (up_put hp T.upM T.upAB)]; rfl
theorem insert_no {m : M} {o : O} {a b : Int} (h : (insert m o a b).2.2 = false) : insert m o a b = (m, o, false) := by
  rcases insert_cases m o a b with ⟨_, e⟩ | ⟨_, _, _, e⟩ | ⟨_, _, _, _, e⟩ | ⟨_, _, _, _, e⟩ <;> rw [e] at h ⊢ <;> cases h
theorem insert_yes {m : M} {o : O} {a b : Int} (h : (insert m o a b).2.2 = true) : (insert m o a b).1 = (put m a b).1 ∧ (put m a b).2 = true := by
  rcases insert_cases m o a b with ⟨_, e⟩ | ⟨hp, _, _, e⟩ | ⟨_, _, _, _, e⟩ | ⟨hp, _, _, _, e⟩ <;> rw [e] at h ⊢ <;> first | exact ⟨rfl, hp⟩ | cases h
theorem wth_had {s : S} {i : Int} (h : has s i = true) : wth s i = s := by
  apply set_ext
  intro j
  rw [has_wth]
  by_cases hj : i = j
  · subst hj; rw [h]; rfl
  · cases has s j <;> simp
    intro e; exact absurd e.symm hj
/-- An edge that is there. -/
theorem insert_again {m : M} {o : O} {a b : Int} (hs : sorted m o = true) (e : Edge m a b) : insert m o a b = (m, o, true) ∧ o a.toNat < o b.toNat := by
  obtain ⟨hR, hU⟩ := sorted_up hs
  have hlt := hU a b e
  have hne : a ≠ b := by rintro rfl; omega
  have h1 : put m a b = (m, true) := by
    unfold put
    have na : node a = true := by rw [node_eq]; simpa using e.1
    have nb : node b = true := by rw [node_eq]; simpa using e.2.1
    rw [if_neg (by simp [na, nb, hne]), wth_had e.2.2]
    congr 1
    funext k
    unfold upd
    split
    · rename_i hk; rw [hk]
    · rfl
  refine ⟨?_, hlt⟩
  rcases insert_cases m o a b with ⟨h, e⟩ | ⟨hp, _, hl, e⟩ | ⟨hp, _, h, hf, e⟩ | ⟨hp, _, hl, hf, e⟩
  · rcases h with h | h
    · rw [h1] at h; cases h
    · rw [hs] at h; cases h
  · rw [e, h1]
  · exact absurd hlt h
  · exact absurd hlt hl
theorem insert_edge {m : M} {o : O} {a b x y : Int} (e : Edge m x y) : Edge (insert m o a b).1 x y := by
  rcases insert_cases m o a b with ⟨_, h⟩ | ⟨hp, _, _, h⟩ | ⟨_, _, _, _, h⟩ | ⟨hp, _, _, _, h⟩ <;> rw [h]
  · exact e
  · exact (put_edge hp _ _).2 (.inl e)
  · exact e
  · exact (put_edge hp _ _).2 (.inl e)
theorem insert_new {m : M} {o : O} {a b : Int} (h : (insert m o a b).2.2 = true) : Edge (insert m o a b).1 a b := by
  obtain ⟨h1, h2⟩ := insert_yes h
  rw [h1]
  exact (put_edge h2 _ _).2 (.inr ⟨rfl, rfl⟩)
/-- Places stay, but between both ends. -/
theorem insert_keeps {m : M} {o : O} {a b : Int} (hs : sorted m o = true) (hi : (insert m o a b).2.2 = true) (hl : ¬ o a.toNat < o b.toNat) (i : Nat) (h : i < 32) :
    ((o b.toNat ≤ o i ∧ o i ≤ o a.toNat) ↔ (o b.toNat ≤ (insert m o a b).2.1 i ∧ (insert m o a b).2.1 i ≤ o a.toNat)) ∧ (¬ (o b.toNat ≤ o i ∧ o i ≤ o a.toNat) → (insert m o a b).2.1 i = o i) := by
  rcases insert_cases m o a b with ⟨_, e⟩ | ⟨_, _, h2, e⟩ | ⟨_, _, _, _, e⟩ | ⟨hp, _, h2, hf, e⟩
  · rw [e] at hi; cases hi
  · exact absurd h2 hl
  · rw [e] at hi; cases hi
  · rw [e]; exact (turn_of hs hp h2 hf).keeps i h
theorem insert_up_ends {m : M} {o : O} {a b : Int} (hs : sorted m o = true) (hi : (insert m o a b).2.2 = true) : (insert m o a b).2.1 a.toNat < (insert m o a b).2.1 b.toNat :=
  (sorted_up (insert_sorted a b hs)).2 a b (insert_new hi)
theorem insert_same {m : M} {o : O} {a b : Int} (h : (insert m o a b).2.2 = false ∨ o a.toNat < o b.toNat) : (insert m o a b).2.1 = o := by
  rcases insert_cases m o a b with ⟨_, e⟩ | ⟨_, _, h2, e⟩ | ⟨_, _, _, _, e⟩ | ⟨hp, _, h2, hf, e⟩ <;> rw [e]
  rw [e] at h
  rcases h with h | h
  · cases h
  · exact absurd h h2
theorem no_edges (a b : Int) : ¬ Edge (fun _ => 0#64) a b := by
  rintro ⟨_, _, h⟩; simp [has_zero] at h
theorem sorted_new : sorted (fun _ => 0#64) newO = true := up_sorted right_new fun x y e => absurd e (no_edges x y)
end Wb
