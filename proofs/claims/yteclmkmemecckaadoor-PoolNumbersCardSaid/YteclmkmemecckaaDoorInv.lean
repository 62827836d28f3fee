/- A region that draws its order, by what holds when some of its operations are done: one step for each operation, whatever the order. -/
import Derived.Test.YteclmkmemecckaaDoorReg2
namespace Go.Proofs.YteclmkmemecckaaDoor
open Go.RowKit Wb

/-- The frame behind those operations that are done. -/
def putD (dst : Nat → Option Tmp) (V : Nat → Value) (d : Nat → Bool) (a0 : Act) : Nat → Act
  | 0 => a0
  | n + 1 => if d n then (putD dst V d a0 n).put (dst n) (V n) else putD dst V d a0 n
theorem put_comm' {a : Act} {s t : Option Tmp} {u v : Value} (h : ∀ k, s = some k → t ≠ some k) : (a.put s u).put t v = (a.put t v).put s u := by
  cases s with
  | none => rfl
  | some s =>
    cases t with
    | none => rfl
    | some t => exact put_comm (fun e => h s rfl (by rw [e]))
theorem putD_same {dst : Nat → Option Tmp} {V V' : Nat → Value} {d : Nat → Bool} {a0 : Act} : ∀ {n : Nat}, (∀ j, d j = true → V' j = V j) → putD dst V d a0 n = putD dst V' d a0 n := by
  intro n h
  induction n with
  | zero => rfl
  | succ n ih =>
    unfold putD
    rw [ih]
    cases hd : d n with
    | false => rfl
    | true => rw [h n hd]
theorem putD_more {dst : Nat → Option Tmp} {V : Nat → Value} {d : Nat → Bool} {a0 : Act} {i : Nat} (hd : d i = false) :
    ∀ {n : Nat}, (∀ j k t, j < n → k < n → dst j = some t → dst k = some t → j = k) → i < n → (putD dst V d a0 n).put (dst i) (V i) = putD dst V (upd d i true) a0 n := by
  intro n
  induction n with
  | zero => intro _ h; omega
  | succ n ih =>
    intro hinj hi
    unfold putD
    by_cases e : i = n
    · subst e
      rw [hd, upd_same]
      simp only [Bool.false_eq_true, if_false, if_true]
      have : ∀ m, m ≤ i → putD dst V d a0 m = putD dst V (upd d i true) a0 m := by
        intro m
        induction m with
        | zero => intro _; rfl
        | succ m ihm =>
          intro hm
          unfold putD
          rw [ihm (by omega), upd_other _ _ (show m ≠ i by omega)]
      rw [this i (Nat.le_refl _)]
    · have hin : i < n := by omega
      have ih' := ih (fun j k t hj hk => hinj j k t (by omega) (by omega)) hin
      rw [upd_other _ _ (show n ≠ i from fun h => e h.symm)]
      cases hn : d n with
      | false => simp only [Bool.false_eq_true, if_false]; exact ih'
      | true =>
        simp only [if_true]
        rw [← ih']
        exact put_comm' fun k hk hk' => e (hinj i n k (by omega) (by omega) hk' hk)
theorem putD_size {dst : Nat → Option Tmp} {V : Nat → Value} {d : Nat → Bool} {a0 : Act} : ∀ {n : Nat}, (putD dst V d a0 n).tmps.size = a0.tmps.size := by
  intro n
  induction n with
  | zero => rfl
  | succ n ih => unfold putD; split <;> simp [put_size, ih]
theorem eval_putD_other {dst : Nat → Option Tmp} {V : Nat → Value} {d : Nat → Bool} {a0 : Act} {k : Nat} : ∀ {n : Nat}, (∀ j, j < n → dst j ≠ some k) → (putD dst V d a0 n).eval (.tmp k) = a0.eval (.tmp k) := by
  intro n
  induction n with
  | zero => intro _; rfl
  | succ n ih =>
    intro h
    unfold putD
    have ih' := ih fun j hj => h j (by omega)
    split
    · cases hn : dst n with
      | none => exact ih'
      | some t => rw [eval_put_ne (fun e => h n (by omega) (by rw [hn, e]))]; exact ih'
    · exact ih'
theorem eval_putD {dst : Nat → Option Tmp} {V : Nat → Value} {d : Nat → Bool} {a0 : Act} {j t : Nat} : ∀ {n : Nat}, (∀ j k t, j < n → k < n → dst j = some t → dst k = some t → j = k) → j < n → d j = true → dst j = some t → t < a0.tmps.size →
    (putD dst V d a0 n).eval (.tmp t) = V j := by
  intro n
  induction n with
  | zero => intro _ h; omega
  | succ n ih =>
    intro hinj hj hd ht hs
    unfold putD
    by_cases e : j = n
    · subst e
      rw [if_pos hd, ht]
      exact eval_put_eq (by rw [putD_size]; exact hs)
    · have ih' := ih (fun j k t hj hk => hinj j k t (by omega) (by omega)) (by omega) hd ht hs
      split
      · cases hn : dst n with
        | none => exact ih'
        | some u => rw [eval_put_ne (fun h => e (hinj j n t (by omega) (by omega) ht (by rw [hn, h])))]; exact ih'
      · exact ih'

/-- What must be done ahead of an operation. -/
def needs (md : Region.Mode) (ops : Array Oper) (i : Nat) : List Nat := ((ops[i]?).map fun o => (o.after.toList.filter fun e => Region.binds md e).map (·.on)).getD []
theorem ready_needs {md : Region.Mode} {ops : Array Oper} {l : Array Bool} {i : Nat} (h : i ∈ Region.ready md ops l) : i < ops.size ∧ l.getD i true = false ∧ ∀ j ∈ needs md ops i, l.getD j false = true := by
  unfold Region.ready at h
  rw [List.mem_filter, List.mem_range] at h
  obtain ⟨hi, h2⟩ := h
  rw [Bool.and_eq_true] at h2
  refine ⟨hi, by simpa using h2.1, fun j hj => ?_⟩
  have h3 := h2.2
  unfold needs at hj
  cases ho : ops[i]? with
  | none => rw [ho] at hj; simp at hj
  | some o =>
    rw [ho] at h3 hj
    simp only [Option.map_some, Option.getD_some, List.mem_map, List.mem_filter, Array.mem_toList_iff] at h3 hj
    obtain ⟨e, ⟨he, hb⟩, rfl⟩ := hj
    rw [Array.all_eq_true_iff_forall_mem] at h3
    have := h3 e he
    rw [hb] at this
    simpa using this
theorem not_ready {md : Region.Mode} {ops : Array Oper} {l : Array Bool} (h : ∀ i, i < ops.size → l.getD i true = true) : Region.ready md ops l = [] := by
  rw [List.eq_nil_iff_forall_not_mem]
  intro i hi
  obtain ⟨h1, h2, _⟩ := ready_needs hi
  rw [h i h1] at h2; cases h2

theorem wpAny_inv {P : Program} {ops : Array Oper} {Q : Exit → Act → World → Prop} {St : Type} (a0 : Act) (dst : Nat → Option Tmp) (V : St → Nat → Value) (C : (Nat → Bool) → St → World → Prop)
    (hinj : ∀ j k t, j < ops.size → k < ops.size → dst j = some t → dst k = some t → j = k)
    (hfit : ∀ j t, j < ops.size → dst j = some t → t < a0.tmps.size)
    (hback : ∀ i, i < ops.size → ∀ j ∈ needs .any ops i, j < i)
    (step : ∀ (d : Nat → Bool) (s : St) (w : World) (i : Nat), i < ops.size → d i = false → (∀ j ∈ needs .any ops i, d j = true) → C d s w →
      ∀ a : Act, (∀ j t, j < ops.size → d j = true → dst j = some t → a.eval (.tmp t) = V s j) → (∀ k, (∀ j, j < ops.size → dst j ≠ some k) → a.eval (.tmp k) = a0.eval (.tmp k)) → a.tmps.size = a0.tmps.size →
      ∀ K : Act → World → Prop, (∀ s' w', (∀ j, d j = true → V s' j = V s j) → C (upd d i true) s' w' → K (a.put (dst i) (V s' i)) w') → wpOp P ops Q i K a w)
    (hQ : ∀ d s w, (∀ i, i < ops.size → d i = true) → C d s w → Q .normal (putD dst (V s) (fun _ => true) a0 ops.size) w) :
    ∀ (n : Nat) (l : Array Bool) (s : St) (w : World), l.size = ops.size → l.toList.countP (!·) ≤ n → C (fun i => l.getD i false) s w → wpAny P .any ops Q n l (putD dst (V s) (fun i => l.getD i false) a0 ops.size) w := by
  have fin : ∀ (l : Array Bool) (s : St) (w : World), l.size = ops.size → (∀ i, i < ops.size → l.getD i true = true) → C (fun i => l.getD i false) s w → Q .normal (putD dst (V s) (fun i => l.getD i false) a0 ops.size) w := by
    intro l s w hl hall hC
    have h1 : ∀ i, i < ops.size → l.getD i false = true := by
      intro i hi
      have h2 := hall i hi
      have hil : i < l.size := by omega
      simpa [Array.getD, hil] using h2
    have h3 := hQ _ s w h1 hC
    have e : ∀ m, m ≤ ops.size → putD dst (V s) (fun i => l.getD i false) a0 m = putD dst (V s) (fun _ => true) a0 m := by
      intro m
      induction m with
      | zero => intro _; rfl
      | succ m ih =>
        intro hm
        unfold putD
        rw [ih (by omega), h1 m (by omega)]
    rw [e _ (Nat.le_refl _)]
    exact h3
  intro n
  induction n with
  | zero =>
    intro l s w hl hn hC
    have hall : ∀ i, i < ops.size → l.getD i true = true := by
      intro i hi
      have hil : i < l.size := by omega
      have h0 : l.toList.countP (!·) = 0 := by omega
      rw [List.countP_eq_zero] at h0
      have := h0 l[i] (by simp)
      simpa [Array.getD, hil] using this
    exact wpAny_done (not_ready hall) (fin l s w hl hall hC) 0
  | succ n ih =>
    intro l s w hl hn hC
    refine ⟨fun hr => ?_, fun i hi => ?_⟩
    · by_cases hall : ∀ i, i < ops.size → l.getD i true = true
      · exact fin l s w hl hall hC
      · exfalso
        have hex : ∃ i, i < ops.size ∧ l.getD i true = false := by
          by_cases h : ∃ i, i < ops.size ∧ l.getD i true = false
          · exact h
          · exact absurd (fun i hi => by
              cases h2 : l.getD i true with
              | true => rfl
              | false => exact absurd ⟨i, hi, h2⟩ h) hall
        have least : ∀ m i, i ≤ m → i < ops.size → l.getD i true = false → ∃ i, i < ops.size ∧ l.getD i true = false ∧ ∀ j, j < i → l.getD j true = true := by
          intro m
          induction m with
          | zero => intro i hm hi hl0; exact ⟨i, hi, hl0, fun j hj => by omega⟩
          | succ m ihm =>
            intro i hm hi hl0
            by_cases h : ∃ j, j < i ∧ l.getD j true = false
            · obtain ⟨j, hj, hj0⟩ := h
              exact ihm j (by omega) (by omega) hj0
            · refine ⟨i, hi, hl0, fun j hj => ?_⟩
              cases h2 : l.getD j true with
              | true => rfl
              | false => exact absurd ⟨j, hj, h2⟩ h
        obtain ⟨i0, hi0, hl0⟩ := hex
        obtain ⟨i, hi, hl1, hlow⟩ := least i0 i0 (Nat.le_refl _) hi0 hl0
        have : i ∈ Region.ready .any ops l := by
          unfold Region.ready
          rw [List.mem_filter, List.mem_range, hl1]
          refine ⟨hi, ?_⟩
          have ho : ops[i]? = some ops[i] := Array.getElem?_eq_getElem hi
          simp only [ho, Option.map_some, Option.getD_some, Bool.not_false, Bool.true_and]
          rw [Array.all_eq_true_iff_forall_mem]
          intro e he
          cases hb : Region.binds .any e with
          | false => rfl
          | true =>
            have hn2 : e.on ∈ needs .any ops i := by
              unfold needs
              simp only [ho, Option.map_some, Option.getD_some, List.mem_map, List.mem_filter, Array.mem_toList_iff]
              exact ⟨e, ⟨he, hb⟩, rfl⟩
            have h1 := hback i hi _ hn2
            have h2 := hlow _ h1
            have hil : e.on < l.size := by omega
            simp only [Array.getD, hil, dite_true] at h2 ⊢
            simpa using h2
        rw [hr] at this
        cases this
    · obtain ⟨hin, hli, hne⟩ := ready_needs hi
      have hil : i < l.size := by omega
      have hdi : l.getD i false = false := by
        simp only [Array.getD, hil, dite_true] at hli ⊢
        exact hli
      refine step (fun i => l.getD i false) s w i hin hdi hne hC _ (fun j t hj hd ht => eval_putD hinj hj hd ht (hfit j t hj ht)) (fun k hk => eval_putD_other fun j hj => hk j hj) putD_size _ ?_
      intro s' w' hs hC'
      have hd' : (fun j => (l.setIfInBounds i true).getD j false) = upd (fun j => l.getD j false) i true := by
        funext j
        unfold upd
        by_cases e : j = i
        · subst e; simp [Array.getD, hil]
        · simp only [e, if_false, Array.getD_eq_getD_getElem?]
          rw [Array.getElem?_setIfInBounds_ne (Ne.symm e)]
      have h1 := ih (l.setIfInBounds i true) s' w' (by simpa using hl) ?_ (by rw [hd']; exact hC')
      · rw [hd', ← putD_more (d := fun j => l.getD j false) hdi hinj hin, ← putD_same hs] at h1
        exact h1
      · have hc : (l.setIfInBounds i true).toList.countP (!·) + 1 = l.toList.countP (!·) := by
          rw [Array.toList_setIfInBounds]
          have hg : l.toList[i]'(by simpa using hil) = false := by
            simp only [Array.getD, hil, dite_true] at hdi
            simpa using hdi
          rw [List.countP_set (by simpa using hil)]
          rw [hg]
          have : 0 < l.toList.countP (!·) := List.countP_pos_iff.2 ⟨false, hg ▸ List.getElem_mem _, rfl⟩
          simp only [Bool.not_false, Bool.not_true, Bool.false_eq_true, if_true, if_false]; omega
        omega

/-- A drawn region by its steps. -/
theorem wp_region_inv {id : Nat} {ops : Array Oper} {Q : Exit → Act → World → Prop} {a0 : Act} {w : World} {St : Type} (dst : Nat → Option Tmp) (V : St → Nat → Value) (C : (Nat → Bool) → St → World → Prop) (s0 : St)
    (hinj : ∀ j k t, j < ops.size → k < ops.size → dst j = some t → dst k = some t → j = k)
    (hfit : ∀ j t, j < ops.size → dst j = some t → t < a0.tmps.size)
    (hback : ∀ i, i < ops.size → ∀ j ∈ needs .any ops i, j < i)
    (h0 : C (fun _ => false) s0 w.drew)
    (step : ∀ (d : Nat → Bool) (s : St) (w : World) (i : Nat), i < ops.size → d i = false → (∀ j ∈ needs .any ops i, d j = true) → C d s w →
      ∀ a : Act, (∀ j t, j < ops.size → d j = true → dst j = some t → a.eval (.tmp t) = V s j) → (∀ k, (∀ j, j < ops.size → dst j ≠ some k) → a.eval (.tmp k) = a0.eval (.tmp k)) → a.tmps.size = a0.tmps.size →
      ∀ K : Act → World → Prop, (∀ s' w', (∀ j, d j = true → V s' j = V s j) → C (upd d i true) s' w' → K (a.put (dst i) (V s' i)) w') → wpOp Tryd.prog ops Q i K a w)
    (hQ : ∀ d s w, (∀ i, i < ops.size → d i = true) → C d s w → Q .normal (putD dst (V s) (fun _ => true) a0 ops.size) w) :
    (Code.region id ops true).wp Tryd.prog Q a0 w := by
  refine wp_region_any (by kernel_rfl) ?_
  have hdr : ({ w with drawn := w.drawn + 1 } : World) = w.drew := rfl
  rw [hdr]
  have hl : (fun i => (Array.replicate ops.size false).getD i false) = fun _ => false := by
    funext i
    rw [Array.getD_eq_getD_getElem?, Array.getElem?_replicate]
    split <;> rfl
  have h1 := wpAny_inv a0 dst V C hinj hfit hback step hQ ops.size (Array.replicate ops.size false) s0 w.drew (by simp) (by
    have := List.countP_le_length (p := fun b : Bool => !b) (l := (Array.replicate ops.size false).toList)
    simpa using this) (by rw [hl]; exact h0)
  have h2 : putD dst (V s0) (fun i => (Array.replicate ops.size false).getD i false) a0 ops.size = a0 := by
    rw [hl]
    have : ∀ n, putD dst (V s0) (fun _ => false) a0 n = a0 := by
      intro n
      induction n with
      | zero => rfl
      | succ n ih => unfold putD; simp [ih]
    exact this _
  rw [h2] at h1
  exact h1
/-- The frame when all is done, over the list of what is written. -/
def putL (V : Nat → Value) : Nat → List (Option Tmp) → Act → Act
  | _, [], a => a
  | k, x :: xs, a => putL V (k + 1) xs (a.put x (V k))
theorem putL_putD (V : Nat → Value) (a0 : Act) : ∀ (xs pre : List (Option Tmp)),
    putL V pre.length xs (putD (fun i => (pre ++ xs).getD i none) V (fun _ => true) a0 pre.length) = putD (fun i => (pre ++ xs).getD i none) V (fun _ => true) a0 (pre ++ xs).length := by
  intro xs
  induction xs with
  | nil => intro pre; simp [putL]
  | cons x xs ih =>
    intro pre
    have h := ih (pre ++ [x])
    have e : pre ++ [x] ++ xs = pre ++ x :: xs := by simp
    rw [e] at h
    rw [← h]
    have hl : (pre ++ [x]).length = pre.length + 1 := by simp
    rw [hl, putL]
    congr 1
    have hx : (pre ++ x :: xs).getD pre.length none = x := by
      rw [List.getD_eq_getElem?_getD, List.getElem?_append_right (Nat.le_refl _), Nat.sub_self]; rfl
    show Act.put _ x (V pre.length) = putD _ V _ a0 (pre.length + 1)
    rw [putD]
    simp only [if_true]
    rw [hx]
theorem not_done {n : Nat} {nl : List (List Nat)} {d : Nat → Bool} (hcl : ∀ k, k < n → d k = true → ∀ j ∈ nl.getD k [], d j = true) {i k : Nat} (hk : k < n) (h : d i = false) (hm : i ∈ nl.getD k []) : d k = false := by
  cases h2 : d k with
  | false => rfl
  | true => have := hcl k hk h2 i hm; rw [h] at this; cases this
/-- The same, over lists: where each operation writes, and what it needs. -/
theorem wp_region_steps {id : Nat} {ops : Array Oper} {Q : Exit → Act → World → Prop} {a0 : Act} {w : World} {St : Type} (ds : List (Option Tmp)) (nl : List (List Nat)) (V : St → Nat → Value) (C : (Nat → Bool) → St → World → Prop) (s0 : St)
    (hn : ds.length = ops.size) (hnl : (List.range ops.size).map (needs .any ops) = nl)
    (hnd : (ds.filterMap fun x => x).Nodup) (hfit : ∀ t ∈ ds.filterMap fun x => x, t < a0.tmps.size) (hback : (List.range ops.size).all (fun i => (nl.getD i []).all (· < i)) = true)
    (h0 : C (fun _ => false) s0 w.drew)
    (step : ∀ (d : Nat → Bool) (s : St) (w : World) (i : Nat), i < ops.size → d i = false → (∀ j ∈ nl.getD i [], d j = true) → (∀ k, k < ops.size → d k = true → ∀ j ∈ nl.getD k [], d j = true) → C d s w →
      ∀ a : Act, (∀ j t, d j = true → ds[j]? = some (some t) → a.eval (.tmp t) = V s j) → (∀ k, some k ∉ ds → a.eval (.tmp k) = a0.eval (.tmp k)) → a.tmps.size = a0.tmps.size →
      ∀ K : Act → World → Prop, (∀ s' w', (∀ j, d j = true → V s' j = V s j) → C (upd d i true) s' w' → K (a.put (ds.getD i none) (V s' i)) w') → wpOp Tryd.prog ops Q i K a w)
    (hQ : ∀ d s w, (∀ i, i < ops.size → d i = true) → C d s w → Q .normal (putL (V s) 0 ds a0) w) :
    (Code.region id ops true).wp Tryd.prog Q a0 w := by
  have hget : ∀ j t, ds.getD j none = some t → ds[j]? = some (some t) := by
    intro j t h
    rw [List.getD_eq_getElem?_getD] at h
    cases h1 : ds[j]? with
    | none => rw [h1] at h; cases h
    | some x => rw [h1] at h; exact congrArg some h
  have hneed : ∀ i, i < ops.size → needs .any ops i = nl.getD i [] := by
    intro i hi
    rw [← hnl, List.getD_eq_getElem?_getD, List.getElem?_map, List.getElem?_range hi]; rfl
  have hnodup : ∀ (ds : List (Option Tmp)), (ds.filterMap fun x => x).Nodup → ∀ (j k : Nat) (t : Tmp), ds[j]? = some (some t) → ds[k]? = some (some t) → j = k := by
    intro ds
    induction ds with
    | nil => intro _ j k t h; simp at h
    | cons x ds ih =>
      intro hd j k t hj hk
      have hmem : ∀ m, ds[m]? = some (some t) → t ∈ ds.filterMap fun x => x := fun m hm => List.mem_filterMap.2 ⟨some t, List.mem_of_getElem? hm, rfl⟩
      cases x with
      | none =>
        simp only [List.filterMap_cons] at hd
        cases j with
        | zero => simp at hj
        | succ j =>
          cases k with
          | zero => simp at hk
          | succ k => exact congrArg (· + 1) (ih hd j k t (by simpa using hj) (by simpa using hk))
      | some y =>
        simp only [List.filterMap_cons, List.nodup_cons] at hd
        cases j with
        | zero =>
          simp at hj
          cases k with
          | zero => rfl
          | succ k => exact absurd (hmem k (by simpa using hk)) (hj ▸ hd.1)
        | succ j =>
          cases k with
          | zero => simp at hk; exact absurd (hmem j (by simpa using hj)) (hk ▸ hd.1)
          | succ k => exact congrArg (· + 1) (ih hd.2 j k t (by simpa using hj) (by simpa using hk))
  refine wp_region_inv (fun i => ds.getD i none) V (fun d s w => (∀ k, k < ops.size → d k = true → ∀ j ∈ nl.getD k [], d j = true) ∧ C d s w) s0 (fun j k t _ _ hj hk => hnodup ds hnd j k t (hget j t hj) (hget k t hk)) (fun j t _ hj => hfit t (List.mem_filterMap.2 ⟨some t, List.mem_of_getElem? (hget j t hj), rfl⟩))
    (fun i hi j hj => ?_) ⟨(fun k _ h => by cases h), h0⟩ (fun d s w i hi hd hne hC a hev hot hsz K hK => ?_) (fun d s w hall hC => ?_)
  · rw [List.all_eq_true] at hback
    have h1 := hback i (List.mem_range.2 hi)
    rw [List.all_eq_true] at h1
    rw [hneed i hi] at hj
    simpa using h1 j hj
  · refine step d s w i hi hd (fun j hj => hne j (by rw [hneed i hi]; exact hj)) hC.1 hC.2 a (fun j t hdj hj => hev j t ?_ hdj ?_) (fun k hk => hot k fun j _ hj => hk (List.mem_of_getElem? (hget j k hj))) hsz K (fun s' w' hs hC' => hK s' w' hs ⟨fun k hk hdk j hj => ?_, hC'⟩)
    · rw [← hn]; exact (List.getElem?_eq_some_iff.1 hj).1
    · show ds.getD j none = some t
      rw [List.getD_eq_getElem?_getD, hj]; rfl
    · have hj' : d j = true := by
        by_cases e : k = i
        · subst e; exact hne j (by rw [hneed k hk]; exact hj)
        · rw [upd_other _ _ e] at hdk; exact hC.1 k hk hdk j hj
      unfold upd; split
      · rfl
      · exact hj'
  · have h1 := hQ d s w hall hC.2
    have h2 := putL_putD (V s) a0 ds []
    simp only [List.nil_append, List.length_nil] at h2
    rw [← hn, ← h2]
    exact h1
section
variable {ops : Array Oper} {a : Act} {w : World} {Q : Exit → Act → World → Prop} {K : Act → World → Prop} {d : Option Tmp} {t0 : TypeId} {ps : String} {af : Array Edge} {i : Nat}
theorem wpOp_alloc_val {ty : Nat} {z : Value} (hz : (Tryd.prog.info? ty).map (·.zero) = some (some z)) (ho : ops[i]? = some { dst := d, op := .alloc ty, type := t0, pos := ps, after := af, guard := none })
    (h : K (a.put d (.pointer (some ⟨w.heap.size, 0, none⟩))) (w.alloc (.cells z.cells ty))) : wpOp Tryd.prog ops Q i K a w := by
  refine wpOp_step ho fun K' hK => ?_
  rw [if_pos (show Region.wanted _ _ = true by simp [Region.wanted])]
  cases hq : Tryd.prog.info? ty with
  | none => rw [hq] at hz; cases hz
  | some i =>
    have hz' : i.zero = some z := by rw [hq] at hz; simpa using hz
    unfold Oper.wp execOp
    simp [Instr.alloc, zeroValue, typeInfo, hq, hz', newVar, newRow]
    exact hK _ _ h
theorem wpOp_run {o : Oper} {v : Value} {w' : World} (ho : ops[i]? = some o) (hw : Region.wanted o (yielded ops a.tmps) = true) (hr : (execOp a.eval o).run Tryd.prog w = .ok (.value v) w')
    (h : K (a.put o.dst v) w') : wpOp Tryd.prog ops Q i K a w := by
  refine wpOp_step ho fun K' hK => ?_
  rw [if_pos hw]
  unfold Oper.wp
  rw [hr, Oper.upon_value]
  exact hK _ _ h
theorem wpOp_skip {o : Oper} (ho : ops[i]? = some o) (hw : Region.wanted o (yielded ops a.tmps) = false) (h : K (a.put o.dst undef) w) : wpOp Tryd.prog ops Q i K a w := by
  refine wpOp_step ho fun K' hK => ?_
  rw [if_neg (by rw [hw]; simp)]
  exact hK _ _ h
theorem wpOp_load_at {ty n g off : Nat} {c vs : Array Value} (T : ArrT ty n) {x : Operand} (ho : ops[i]? = some { dst := d, op := .load ty x, type := t0, pos := ps, after := af, guard := none })
    (hx : a.eval x = .pointer (some ⟨g, off, none⟩)) (hg : row? w g = some c) (hn : off + n ≤ c.size) (hv : c.extract off (off + n) = vs) (h : K (a.put d (.agg vs)) w) : wpOp Tryd.prog ops Q i K a w := by
  refine wpOp_step ho fun K' hK => ?_
  rw [if_pos (show Region.wanted _ _ = true by simp [Region.wanted])]
  have hl := run_loadVar_seg T w g off c hg hn
  rw [hv] at hl
  unfold Oper.wp execOp
  simp only [hx, Instr.loadAt, Instr.sureAddr, Sem.run_bind, Sem.run_pure, Result.andThen_ok, hl]
  exact hK _ _ h
theorem wpOp_store_at {ty n g off : Nat} {c vs e : Array Value} (T : ArrT ty n) {x y : Operand} (ho : ops[i]? = some { dst := d, op := .store ty x y, type := t0, pos := ps, after := af, guard := none })
    (hx : a.eval x = .pointer (some ⟨g, off, none⟩)) (hy : a.eval y = .agg vs) (hg : row? w g = some c) (hn : off + n ≤ c.size) (hv : vs.size = n) (h1 : vs.all (·.oneCell') = true) (he : splice c off vs = e) (h : K (a.put d undef) (w.setRow g e)) : wpOp Tryd.prog ops Q i K a w := by
  refine wpOp_step ho fun K' hK => ?_
  rw [if_pos (show Region.wanted _ _ = true by simp [Region.wanted])]
  have hl := run_storeVar_seg T w g off c vs hg hn hv h1
  rw [he] at hl
  unfold Oper.wp execOp
  simp only [hx, hy, Instr.storeAt, Instr.sureAddr, Sem.run_bind, Sem.run_pure, Result.andThen_ok, hl]
  exact hK _ _ h
end
end Go.Proofs.YteclmkmemecckaaDoor
