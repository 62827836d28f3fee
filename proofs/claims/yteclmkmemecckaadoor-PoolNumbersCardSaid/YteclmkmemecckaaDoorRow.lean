/- How a law's walk becomes its row: arguments opened, the listed table, the post. -/
import Derived.Test.YteclmkmemecckaaDoorEdge
import Derived.Test.YteclmkmemecckaaDoorRows
import Derived.Test.YteclmkmemecckaaDoorCards
import Derived.Test.YteclmkmemecckaaDoorTie
import Derived.ProofKit
import Derived.LaidMore
import Derived.OpenShut
import Derived.Stop.Joined
import Derived.Carry
import Derived.Deep.Slices
import Derived.Deep.Fields
import Derived.ChangeSame
import Derived.Lib.SmallJoins
namespace Go.Proofs.YteclmkmemecckaaDoor
open Go.ChangeShapes Go.WideShapes Go.ChangeAt Go.WideElems Go.RowKit Go.Deep Wb

theorem own : ownKnob Tryd.prog.godebug = none := by kernel_rfl
theorem laidOut : laidOutB Tryd.prog = true := by kernel_rfl
theorem gTab : Tryd.prog.globalNamed "math/bits.deBruijn64tab" = some 0 := by kernel_rfl
theorem tTab : (Tryd.prog.globals[0]?).map (·.type) = some 122 := by kernel_rfl
abbrev theTab : List (String × DataW Unit) := [("math/bits.deBruijn64tab", Rows.laid_math_bits_deBruijn64tab)]
set_option maxRecDepth 100000 in
theorem laid_tab : (Rows.laid_math_bits_deBruijn64tab : DataW Unit) = .agg (Lib.deBruijn64tab.map fun k : Nat => DataW.lit (.int .u8 (k : Int))) := by kernel_rfl
/-- What the table's cells hold. -/
theorem tab_of_laid {W : World} (h : laidMetH Tryd.prog theTab W) : Tab W := by
  rw [MakeChecks.laidMetH_plain _ _ _ (by kernel_rfl)] at h
  obtain ⟨ps, ⟨g0, t0, cs0, f0, p0, q0, hg0, ht0, hv0, hd0, _, _⟩, _, _⟩ := h
  obtain rfl := Option.some.inj (gTab.symm.trans hg0)
  obtain rfl := Option.some.inj (tTab.symm.trans ht0)
  obtain ⟨xs, m1, rfl, hx1, hlen, hn, hel⟩ := DataW.trod_array Tryd.underlying122 hd0
  have c1 : Tryd.prog.cellsOf 5 = 1 := by kernel_rfl
  have cN : Tryd.prog.cellsOf 122 = 64 := by kernel_rfl
  rw [cN] at hlen
  intro j hj
  have hj64 : j < 64 := hj
  have hcell := World.var?_cell hg0 hv0 j
  have h0 := hel j hj64
  rw [c1, Nat.mul_one] at h0
  have hx : xs[j]? = some (xs[j]'(by omega)) := List.getElem?_eq_getElem (by omega)
  rw [hx] at h0
  obtain ⟨k, e1, e2, _⟩ := DataW.trod_int Tryd.underlying5 h0
  rw [hcell]
  have e3 : cs0.toList[j]? = some (.int .u8 k) := by
    have := congrArg (fun l : List Value => l[0]?) e1
    simp only [List.getElem?_take, List.getElem?_drop] at this
    simpa using this
  rw [Array.getElem?_toList] at e3
  rw [e3]
  have e4 : (xs.map (·.1))[j]? = some (DataW.lit (.int .u8 k)) := by rw [List.getElem?_map, hx, e2]; rfl
  have e5 : (DataW.agg (xs.map (·.1)) : DataW Unit) = Rows.laid_math_bits_deBruijn64tab := by
    simp only [Prod.mk.injEq] at hx1; exact hx1.1.symm
  have e6 : xs.map (·.1) = Lib.deBruijn64tab.map fun k : Nat => DataW.lit (.int .u8 (k : Int)) := by rw [laid_tab] at e5; injection e5
  have e7 : (xs.map (·.1))[j]? = some (DataW.lit (.int .u8 (Lib.deBruijn64tab.getD j 0))) := by
    rw [e6, List.getElem?_map, List.getElem?_eq_getElem hj, List.getD_eq_getElem?_getD, List.getElem?_eq_getElem hj]; rfl
  rw [e4] at e7
  have e8 := (Lit.int.inj (DataW.lit.inj (Option.some.inj e7))).2
  rw [e8]

/-! ### arguments stay as they were -/
section
variable {H : Type} {enc : TypeId × Value → H}
theorem args_stay {W W' : World} (hb : Below W.heap.size W W') (sp : Nat → Bool) : ∀ (ts : List TypeId) (vs : List Value) (ds : List (DataW H)) (p : List MemPlace),
    (∀ t ∈ ts, Tryd.prog.readableRec t = true ∧ t < Tryd.prog.types.size) → (∀ x ∈ p, x.block < W.heap.size) → (∀ x ∈ p, sp x.block = true) →
    DataW.TrodAll enc Tryd.prog W 0 (fun _ => true) true ts vs ds p → DataW.TrodAll enc Tryd.prog W' 0 sp true ts vs ds p := by
  intro ts
  induction ts with
  | nil => intro vs ds p _ _ _ h; cases vs <;> cases ds <;> exact h
  | cons t ts ih =>
    intro vs ds p ht hp hs h
    cases vs with
    | nil => exact h.elim
    | cons v vs =>
      cases ds with
      | nil => exact h.elim
      | cons d ds =>
        obtain ⟨p1, q, h1, h2, rfl⟩ := h
        refine ⟨p1, q, Trod_stays laidOut (ht t (by simp)).1 (ht t (by simp)).2 h1 (fun x hx => hb.same (hp x (by simp [hx]))) (fun x hx => hs x (by simp [hx])), ?_, rfl⟩
        exact ih vs ds q (fun t h => ht t (by simp [h])) (fun x hx => hp x (by simp [hx])) (fun x hx => hs x (by simp [hx])) h2

theorem post_of_below {P : Program} {f : Func} {s : ChangeSpec} {apart fresh handsOn again : Bool} {W W' : World} {args : Array Value} {v : Value} {ds gs : List (DataW H)} {before pa pv : List MemPlace}
    (hW : DataW.Whole enc P f.params.toList s.vars apart W args.toList ds gs before)
    (hres : ∀ (b : Nat) (sp : Nat → Bool) (hd : Bool), DataW.TrodAll enc P W' b sp hd f.resultTypes.toList (v.resultList f.resultTypes.size) (s.fn H (ds ++ gs)).results [])
    (hargs : ∀ sp : Nat → Bool, (∀ p ∈ before, sp p.block = true) → DataW.TrodAll enc P W' 0 sp true f.params.toList args.toList (s.fn H (ds ++ gs)).args pa)
    (hvars : ∀ sp : Nat → Bool, (∀ p ∈ before, sp p.block = true) → DataW.TrodVars enc P W' sp s.vars (s.fn H (ds ++ gs)).vars pv)
    (hps : before = pa ++ pv) (hb : Below W.heap.size W W')
    (hok : ∀ (j : Nat) (t : TypeId) (r : Value), f.resultTypes[j]? = some t → (v.resultList f.resultTypes.size)[j]? = some r → Value.okWide P W' .any 0 t r) :
    s.post enc P f apart fresh handsOn again W args v W' := by
  have hlt : ∀ p ∈ before, p.block < W.heap.size := fun p hp => hW.lt p hp
  have hold : ∀ p ∈ before, (fun b => decide (b < W.heap.size)) p.block = true := fun p hp => by simpa using hlt p hp
  refine ⟨ds, gs, before, [], pa, pv, hW, hres _ _ _, hargs _ hold, hvars _ hold, World.keptBut_mono (fun p hp => ⟨hp, ?_⟩) (hb.frame (· ∈ before)), fun _ => ?_⟩
  · rw [hps, List.mem_append] at hp
    exact Or.inr hp
  · obtain ⟨_, _, _, _, _, hz, hn⟩ := hW
    refine ⟨hok, _, _, ([] ++ pa) ++ pv, ⟨[] ++ pa, pv, trodAll_append (hargs _ (fun _ _ => rfl)) (hres _ _ _), hvars _ (fun _ _ => rfl), rfl, ?_, ?_⟩, ?_⟩
    · intro b off hp
      have hin : MemPlace.cell b off ∈ before := by rw [hps]; simpa using hp
      rw [hb.frozen (hlt _ hin)]
      exact hz b off hin
    · intro ha
      have := hn ha
      rw [hps] at this
      simpa using this
    · intro p hp _
      rw [hps]
      simpa using hp

set_option maxRecDepth 100000 in
/-- A law: its walk, as its row asks for it. -/
theorem law_lifted (os : Os) (started : os.Started) (s : ChangeSpec) (f : FuncId) (fn : Func) (hf : Tryd.prog.funcs[f]? = some fn) (hi : Tryd.prog.inits.idxOf? f = none)
    (hts : ∀ t ∈ fn.params.toList, Tryd.prog.readableRec t = true ∧ t < Tryd.prog.types.size) (hr : fn.resultTypes = #[4]) (hv : s.vars = [])
    (hs : ∀ ds : List (DataW H), ds.length = fn.params.toList.length → s.fn H (ds ++ []) = { results := [.lit (.bool true)], args := ds })
    (wit : ∃ (w : World) (tape : Tape) (i : Input), w.os = os ∧ (w.forCall tape i).Shaped Tryd.prog ∧ i.vars = [] ∧ Input.okWide Tryd.prog (w.forCall tape i) .any w.heap.size f i ∧
      ((s.pre enc Tryd.prog fn [] false (w.forCall tape i).memory i.args ∧ laidMetH Tryd.prog theTab (w.forCall tape i).memory) ∧ sizedMet enc Tryd.prog fn (OpenSpec.ofChange s) false (w.forCall tape i).memory i.args) ∧
      ({} : Assume).holds Tryd.prog (lone (Frame.enter Tryd.prog f i.args .normal) [] (w.forCall tape i)))
    (run : ∀ (W : World) (base : Nat) (args : Array Value) (ds : List (DataW H)) (p : List MemPlace),
      (∀ (j : Nat) t v, fn.params[j]? = some t → args[j]? = some v → Value.okWide Tryd.prog W .any base t v) →
      DataW.TrodAll enc Tryd.prog W 0 (fun _ => true) true fn.params.toList args.toList ds p → (∀ x ∈ p, x.block < W.heap.size) → Tab W →
      Calls Tryd.prog f args W fun e W' => e = .returned (.bool true) ∧ Below W.heap.size W W') :
    ReturnsInHanded {} Tryd.checked os f .any (fun w args => (s.pre enc Tryd.prog fn [] false w args ∧ laidMetH Tryd.prog theTab w) ∧ sizedMet enc Tryd.prog fn (OpenSpec.ofChange s) false w args)
      (s.post enc Tryd.prog fn false true false false) := by
  refine returnsInHanded_of_change_and (C := Tryd.checked) (X := fun w _ => laidMetH Tryd.prog theTab w) (fun _ _ _ hh h => h.of_heap hh) own started hi hf wit ?_
  intro W base args ds gs before hval hW _ _ hL _
  have hW' := hW
  have hlt : ∀ x ∈ before, x.block < W.heap.size := fun x hx => hW.lt x hx
  obtain ⟨p, q, hA, hV, rfl, hfz, hnd⟩ := hW
  rw [hv] at hV
  obtain ⟨rfl, rfl⟩ := trodVars_none hV
  rw [List.append_nil] at hW' hlt
  have hlen : ds.length = fn.params.toList.length := by
    have : ∀ (ts : List TypeId) (vs : List Value) (ds : List (DataW H)) (p : List MemPlace), DataW.TrodAll enc Tryd.prog W 0 (fun _ => true) true ts vs ds p → ds.length = ts.length := by
      intro ts
      induction ts with
      | nil => intro vs ds p h; cases vs <;> cases ds <;> first | rfl | exact h.elim
      | cons t ts ih =>
        intro vs ds p h
        cases vs with
        | nil => exact h.elim
        | cons v vs =>
          cases ds with
          | nil => exact h.elim
          | cons d ds => obtain ⟨_, _, _, h2, _⟩ := h; simp [ih _ _ _ h2]
    exact this _ _ _ _ hA
  refine (run W base args ds p hval hA hlt (tab_of_laid hL)).mono fun e W' ⟨he, hb⟩ => ?_
  subst he
  refine ⟨_, rfl, post_of_below (pa := p) (pv := []) hW' ?_ ?_ ?_ (by simp) hb (ok_one hr rfl (okWide_bool_mk Tryd.underlying4 _))⟩
  · intro b sp hd
    rw [hr, hs ds hlen]
    exact trodAll_mk1 (shut_bool Tryd.underlying4 _)
  · intro sp hsp
    rw [hs ds hlen]
    exact args_stay hb sp _ _ _ _ hts hlt hsp hA
  · intro sp _
    rw [hs ds hlen, hv]
    rfl
end

/-- The door's own heap meets the condition. -/
theorem door_met (os : Os) (args : Array Value) : laidMetH Tryd.prog theTab ((World.doorLaid Tryd.prog 400 os).forCall (fun _ _ => 0) ⟨#[], args, []⟩).memory :=
  laidMetH_of_parts3 (fuel := 8) (laidMet_of_run' 8 (by kernel_rfl) (by kernel_rfl)) (by kernel_rfl) (by kernel_rfl)
/-! ### arguments opened -/
section
variable {H : Type} {enc : TypeId × Value → H} {w : World} {base b0 : Nat} {sp : Nat → Bool} {held : Bool} {r : Reach}
theorem okWide_array {P : Program} {t e : TypeId} {n : Nat} {v : Value} (ht : P.underlying t = some (.array n e)) (h : Value.okWide P w r base t v) : ∃ cs, v = .agg cs ∧ cs.size = P.cellsOf t := by
  simp only [Value.okWide, ht] at h
  obtain ⟨cs, h1, h2, _⟩ := h
  exact ⟨cs, h1, h2⟩
theorem open_ints_arr {P : Program} {t e : TypeId} {n : Nat} {k : IntKind} {v : Value} {d : DataW H} {p : List MemPlace} (ht : P.underlying t = some (.array n e)) (he : P.underlying e = some (.int k)) (hc : P.cellsOf e = 1)
    (hn : P.cellsOf t = n) (hv : Value.okWide P w r b0 t v) (h : DataW.Trod enc P w base sp held t v d p) :
    ∃ f : Nat → Int, v = .agg (encA (fun x => .int k x) n f) ∧ ∀ i, i < n → (Lit.int k (f i)).wf = true := by
  obtain ⟨cs, rfl, hsz⟩ := okWide_array ht hv
  rw [hn] at hsz
  obtain ⟨fuel, hf⟩ := h
  obtain ⟨xs, m1, rfl, hx1, hlen, hxn, hel⟩ := DataW.trod_array ht hf
  have hcell : ∀ i, i < n → ∃ k', cs[i]? = some (.int k k') ∧ (Lit.int k k').wf = true := by
    intro i hi
    have h0 := hel i hi
    rw [hc, Nat.mul_one] at h0
    have hx : xs[i]? = some (xs[i]'(by omega)) := List.getElem?_eq_getElem (by omega)
    rw [hx] at h0
    obtain ⟨k', e1, e2, hw⟩ := DataW.trod_int he h0
    refine ⟨k', ?_, hw⟩
    have := congrArg (fun l : List Value => l[0]?) e1
    simp only [List.getElem?_take, List.getElem?_drop, Value.cells] at this
    simpa using this
  refine ⟨fun i => RowKit.intOf (cs.getD i undef), ?_, fun i hi => ?_⟩
  · congr 1
    apply Array.ext_getElem?
    intro i
    by_cases hi : i < n
    · obtain ⟨k', h1, _⟩ := hcell i hi
      rw [encA_get _ _ _ _ hi, h1, Array.getD_eq_getD_getElem?, h1]
      rfl
    · rw [Array.getElem?_eq_none (by omega), Array.getElem?_eq_none (by rw [encA_size]; omega)]
  · obtain ⟨k', h1, h2⟩ := hcell i hi
    show (Lit.int k (RowKit.intOf (cs.getD i undef))).wf = true
    rw [Array.getD_eq_getD_getElem?, h1]
    exact h2
set_option maxRecDepth 100000 in
theorem open_order {v : Value} {d : DataW H} {p : List MemPlace} (hv : Value.okWide Tryd.prog w r b0 36 v) (h : DataW.Trod enc Tryd.prog w base sp held 36 v d p) : ∃ o : O, v = .agg (encO o) := by
  obtain ⟨f, rfl, _⟩ := open_ints_arr Tryd.underlying36 Tryd.underlying3 (by kernel_rfl) (by kernel_rfl) hv h
  exact ⟨f, rfl⟩
theorem encA_congr {α β : Type} (e1 : α → Value) (e2 : β → Value) (n : Nat) (f : Nat → α) (g : Nat → β) (h : ∀ i, i < n → e1 (f i) = e2 (g i)) : encA e1 n f = encA e2 n g := by
  apply Array.ext_getElem?
  intro k
  by_cases hk : k < n
  · rw [encA_get _ _ _ _ hk, encA_get _ _ _ _ hk, h k hk]
  · rw [Array.getElem?_eq_none (by rw [encA_size]; omega), Array.getElem?_eq_none (by rw [encA_size]; omega)]
theorem u64_sv {x : Int} (h : (Lit.int .u64 x).wf = true) : x = sv (BitVec.ofInt 64 x) := by
  have h2 : 0 ≤ x ∧ x < 18446744073709551616 := by
    have h3 : decide (IntKind.u64.min ≤ x) && decide (x ≤ IntKind.u64.max) := h
    rw [Bool.and_eq_true, decide_eq_true_eq, decide_eq_true_eq, show IntKind.u64.min = 0 from rfl, show IntKind.u64.max = 18446744073709551615 from rfl] at h3; omega
  unfold sv
  rw [BitVec.toNat_ofInt]; omega
set_option maxRecDepth 100000 in
theorem open_mat {v : Value} {d : DataW H} {p : List MemPlace} (hv : Value.okWide Tryd.prog w r b0 44 v) (h : DataW.Trod enc Tryd.prog w base sp held 44 v d p) : ∃ m : M, v = .agg (encM m) := by
  obtain ⟨f, rfl, hw⟩ := open_ints_arr Tryd.underlying44 Tryd.underlying26 (by kernel_rfl) (by kernel_rfl) hv h
  refine ⟨fun i => BitVec.ofInt 64 (f i), ?_⟩
  congr 1
  exact encA_congr _ _ _ _ _ fun i hi => by show Value.int .u64 (f i) = .int .u64 (sv _); rw [← u64_sv (hw i hi)]
end
end Go.Proofs.YteclmkmemecckaaDoor
