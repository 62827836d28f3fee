/- How sets, lists and arrays stand as values; small laws for the walks. -/
import Derived.Test.YteclmkmemecckaaDoorTopo2
import Derived.Test.YteclmkmemecckaaDoorProg
import Derived.WalkKit
import Derived.WalkSpells
import Derived.WalkLawsBesides
import Derived.Lib.Hide
import Derived.Lib.TrailingZeros
namespace Go.Proofs.YteclmkmemecckaaDoor
open Go.RowKit Wb

/-- A set as a number. -/
def sv (s : S) : Int := (s.toNat : Int)
theorem wrap_toNat (s : S) : IntKind.u64.wrap ((s.toNat : Nat) : Int) = (s.toNat : Int) := by
  have := s.isLt
  rw [IntKind.wrap_u64]; omega
theorem ofInt_sv (s : S) : BitVec.ofInt 64 (sv s) = s := by
  unfold sv; rw [BitVec.ofInt_natCast, BitVec.ofNat_toNat, BitVec.setWidth_eq]
@[go_sem] theorem bits_and_sv (a b : S) : bits .and .u64 (sv a) (sv b) = sv (a &&& b) := by
  show IntKind.u64.wrap ((BitVec.ofInt 64 (sv a) &&& BitVec.ofInt 64 (sv b)).toNat : Int) = _
  rw [ofInt_sv, ofInt_sv, wrap_toNat]; rfl
@[go_sem] theorem bits_or_sv (a b : S) : bits .or .u64 (sv a) (sv b) = sv (a ||| b) := by
  show IntKind.u64.wrap ((BitVec.ofInt 64 (sv a) ||| BitVec.ofInt 64 (sv b)).toNat : Int) = _
  rw [ofInt_sv, ofInt_sv, wrap_toNat]; rfl
@[go_sem] theorem bits_andNot_sv (a b : S) : bits .andNot .u64 (sv a) (sv b) = sv (a &&& ~~~b) := by
  show IntKind.u64.wrap ((BitVec.ofInt 64 (sv a) &&& ~~~BitVec.ofInt 64 (sv b)).toNat : Int) = _
  rw [ofInt_sv, ofInt_sv, wrap_toNat]; rfl
theorem sv_inj {a b : S} (h : sv a = sv b) : a = b := BitVec.eq_of_toNat_eq (by unfold sv at h; omega)
@[go_sem] theorem sv_beq (a b : S) : (sv a == sv b) = (a == b) := by
  rw [Bool.eq_iff_iff, beq_iff_eq, beq_iff_eq]
  exact ⟨sv_inj, fun h => by rw [h]⟩
@[go_sem] theorem sv_beq0 (a : S) : (sv a == 0) = (a == 0#64) := by
  rw [← sv_beq]; rfl
@[go_sem] theorem sv_bne0 (a : S) : (sv a != 0) = !(a == 0#64) := by
  rw [← sv_beq0]; rfl
theorem sv_bit {i : Int} (h0 : 0 ≤ i) (h1 : i ≤ 63) : IntKind.u64.wrap (2 ^ i.toNat) = sv (bit i) := by
  unfold sv bit
  rw [if_neg (by omega), BitVec.toNat_twoPow]
  have h : (2 ^ i.toNat : Nat) < 2 ^ 64 := Nat.pow_lt_pow_right (by omega) (by omega)
  rw [Nat.mod_eq_of_lt h, IntKind.wrap_u64]
  have e : ((2 ^ i.toNat : Nat) : Int) = (2 : Int) ^ i.toNat := by simp
  rw [← e]
  generalize (2 ^ i.toNat : Nat) = q at h
  omega
theorem sv_bit0 {i : Int} (h : i < 0 ∨ 63 < i) : (0 : Int) = sv (bit i) := by
  unfold sv bit; rw [if_pos h]; rfl
theorem sv_nonneg (s : S) : 0 ≤ sv s := by unfold sv; omega
theorem sv_lt (s : S) : sv s < 18446744073709551616 := by unfold sv; have := s.isLt; omega
theorem ret_int {k : IntKind} {a b : Int} (h : a = b) : Ending.returned (.int k a) = .returned (.int k b) := by rw [h]
theorem ret_bool {a b : Bool} (h : a = b) : Ending.returned (.bool a) = .returned (.bool b) := by rw [h]

/-! ### the table of the library that is read -/
def Tab (w : World) : Prop := ∀ j, j < Lib.deBruijn64tab.length → w.cell? ⟨0, j, none⟩ = some (.int .u8 (Lib.deBruijn64tab.getD j 0))
theorem Tab.pos {w : World} (h : Tab w) : 0 < w.heap.size := World.block_lt_of_cell? w _ (h 0 (by decide))
theorem Tab.below {w w' : World} {B : Nat} (h : Tab w) (hb : Below B w w') (hB : 0 < B) : Tab w' := fun j hj => by
  rw [hb.cell (p := ⟨0, j, none⟩) hB]; exact h j hj
theorem Tab.next {w w' : World} (h : Tab w) (hb : Below w.heap.size w w') : Tab w' := h.below hb h.pos
theorem Tab.alloc {w : World} (h : Tab w) (o : Obj) : Tab (w.alloc o) := h.next ((Below.refl _ _).alloc (Nat.le_refl _) o)
theorem Tab.drew {w : World} (h : Tab w) : Tab w.drew := h

/-- The least number of a set, as the library reckons it. -/
theorem ctz_first {s : S} (h : s ≠ 0#64) : ((Lib.ctz 64 s.toNat : Nat) : Int) = first s := by
  have h0 : s.toNat ≠ 0 := fun e => h (BitVec.eq_of_toNat_eq (by simpa using e))
  obtain ⟨m, hm, hk⟩ := Lib.ctzFrom_spec 64 s.toNat (by omega) s.isLt
  have e : Lib.ctz 64 s.toNat = Lib.ctzFrom 64 s.toNat := by simp [Lib.ctz, h0]
  rw [e]
  generalize Lib.ctzFrom 64 s.toNat = k at hm hk
  have hb : ∀ j, s.getLsbD j = (s.toNat).testBit j := fun j => rfl
  have hkm : s.getLsbD k = true := by
    rw [hb, hm, Nat.mul_comm, Nat.testBit_mul_two_pow]; simp [Nat.testBit_zero]
  have hlow : ∀ j, j < k → s.getLsbD j = false := by
    intro j hj
    rw [hb, hm, Nat.mul_comm, Nat.testBit_mul_two_pow]; simp; omega
  have h1 : first s ≤ (k : Int) := first_le (by rw [has_nat]; exact hkm)
  have h2 := first_mem h
  have hr := has_range h2
  have e2 : (((first s).toNat : Nat) : Int) = first s := by omega
  rw [← e2, has_nat] at h2
  rcases Nat.lt_or_ge (first s).toNat k with h3 | h3
  · rw [hlow _ h3] at h2; simp at h2
  · omega

theorem at_lt {α : Type} {l : List α} {k : Nat} (h : k < l.length) : ∃ x, l[k]? = some x := ⟨l[k], List.getElem?_eq_getElem h⟩
theorem take_snoc {α : Type} {l : List α} {k : Nat} {x : α} (h : l[k]? = some x) : l.take (k + 1) = l.take k ++ [x] := by
  rw [List.getElem?_eq_some_iff] at h
  obtain ⟨h1, h2⟩ := h
  rw [List.take_succ_eq_append_getElem h1, h2]

/-! ### a body that jumps back to its one label -/
theorem wp_scope_loop {P : Program} {a : Act} {w : World} {Q : Exit → Act → World → Prop} {rest : Code} (l : Nat) (J : Act → World → Prop) (μ : Act → World → Nat)
    (hJ : J a w)
    (pass : ∀ a w, J a w → rest.wp P (Exit.jump l (fun a' w' => J a' w' ∧ μ a' w' < μ a w) Q) a w) : (Code.scope ((Code.label l).seq rest)).wp P Q a w := by
  refine wp_scope_jumps l J μ (rest := Code.skip.seq rest) (by simp [findLabel]) ?_ (fun a w h => wp_seq (wp_skip (pass a w h)))
  refine wp_seq (wp_label ?_)
  refine wp_mono (pass a w hJ) ?_
  intro e a'' w'' h
  cases e with
  | goto l' => exact ⟨h.1, h.2.1⟩
  | _ => exact h

theorem wp_scope_loop1 {P : Program} {a : Act} {w : World} {Q : Exit → Act → World → Prop} {pre rest : Code} (l : Nat) (J : Act → World → Prop) (μ : Act → World → Nat) (hp : findLabel pre l = none)
    (hJ : pre.wp P (Exit.then J (fun _ _ _ => False)) a w)
    (pass : ∀ a w, J a w → rest.wp P (Exit.jump l (fun a' w' => J a' w' ∧ μ a' w' < μ a w) Q) a w) : (Code.scope (pre.seq ((Code.label l).seq rest))).wp P Q a w := by
  refine wp_scope_jumps l J μ (rest := Code.skip.seq rest) (by simp [findLabel, hp]) ?_ (fun a w h => wp_seq (wp_skip (pass a w h)))
  refine wp_seq (wp_mono hJ ?_)
  intro e a1 w1 h1
  cases e with
  | normal =>
    refine wp_seq (wp_label ?_)
    refine wp_mono (pass a1 w1 h1) ?_
    intro e a'' w'' h
    cases e with
    | goto l' => exact ⟨h.1, h.2.1⟩
    | _ => exact h
  | _ => exact h1.elim

theorem wp_scope_loop2 {P : Program} {a : Act} {w : World} {Q : Exit → Act → World → Prop} {pre pre2 rest : Code} (l : Nat) (J : Act → World → Prop) (μ : Act → World → Nat) (hp : findLabel pre l = none) (hp2 : findLabel pre2 l = none)
    (hJ : pre.wp P (Exit.then (pre2.wp P (Exit.then J (fun _ _ _ => False))) (fun _ _ _ => False)) a w)
    (pass : ∀ a w, J a w → rest.wp P (Exit.jump l (fun a' w' => J a' w' ∧ μ a' w' < μ a w) Q) a w) : (Code.scope (pre.seq (pre2.seq ((Code.label l).seq rest)))).wp P Q a w := by
  refine wp_scope_jumps l J μ (rest := Code.skip.seq rest) (by simp [findLabel, hp, hp2]) ?_ (fun a w h => wp_seq (wp_skip (pass a w h)))
  refine wp_seq (wp_mono hJ ?_)
  intro e a1 w1 h1
  cases e with
  | normal =>
    refine wp_seq (wp_mono (show pre2.wp P (Exit.then J (fun _ _ _ => False)) a1 w1 from h1) ?_)
    intro e a2 w2 h2
    cases e with
    | normal =>
      refine wp_seq (wp_label ?_)
      refine wp_mono (pass a2 w2 h2) ?_
      intro e a'' w'' h
      cases e with
      | goto l' => exact ⟨h.1, h.2.1⟩
      | _ => exact h
    | _ => exact h2.elim
  | _ => exact h1.elim

/-! ### slices of whole numbers that the call itself made -/
def Own (w : World) (B : Nat) (v : Value) (l : List Int) : Prop := w.ownsRow B 3 1 v l.length (l.map (Value.int .i64))
theorem Own.nil (w : World) (B : Nat) : Own w B (.slice none 0 0) [] := World.ownsRow_nil w B 3 1
theorem Own.alloc {w : World} {B : Nat} {v : Value} {l : List Int} (h : Own w B v l) (o : Obj) : Own (w.alloc o) B v l := World.ownsRow.alloc h o
theorem Own.drew {w : World} {B : Nat} {v : Value} {l : List Int} (h : Own w B v l) : Own w.drew B v l := h
theorem Own.kept {w w' : World} {B : Nat} {v : Value} {l : List Int} {row : Option Nat} (h : Own w B v l) (hg : w.grownBy w' row) (hne : v.ownBlock = none ∨ v.ownBlock ≠ row) : Own w' B v l := World.ownsRow.kept h hg hne
theorem Own.below {w w' : World} {B C : Nat} {v : Value} {l : List Int} (h : Own w B v l) (hb : Below C w w') (hC : ∀ k, v.ownBlock = some k → k < C) : Own w' B v l := by
  refine ⟨h.1, ?_⟩
  rcases h.2 with hn | ⟨g, cap, cur, rfl, hB, hgg, rest⟩
  · exact .inl hn
  · exact .inr ⟨g, cap, cur, rfl, hB, by rw [hb.block g (hC g rfl)]; exact hgg, rest⟩
theorem Own.lt {w : World} {B : Nat} {v : Value} {l : List Int} (h : Own w B v l) : ∀ k, v.ownBlock = some k → B ≤ k ∧ k < w.heap.size := World.ownsRow.lt h
theorem Own.next {w w' : World} {B : Nat} {v : Value} {l : List Int} (h : Own w B v l) (hb : Below w.heap.size w w') : Own w' B v l := h.below hb fun k hk => (h.lt k hk).2
theorem Own.base {w : World} {B B' : Nat} {v : Value} {l : List Int} (h : Own w B v l) (hB : B' ≤ B) : Own w B' v l := by
  refine ⟨h.1, ?_⟩
  rcases h.2 with hn | ⟨g, cap, cur, rfl, hb, rest⟩
  · exact .inl hn
  · exact .inr ⟨g, cap, cur, rfl, by omega, rest⟩
/-- As it is read: by its address. -/
theorem Own.open {w : World} {B : Nat} {v : Value} {l : List Int} (h : Own w B v l) :
    (v = .slice none 0 0 ∧ l = []) ∨ ∃ g cap, v = .slice (some ⟨g, 0, none⟩) l.length cap ∧ B ≤ g ∧ g < w.heap.size ∧ l.length ≤ cap ∧ cap ≤ maxLen ∧ ∀ j x, l[j]? = some x → w.cell? ⟨g, j, none⟩ = some (.int .i64 x) := by
  rcases h.2 with ⟨rfl, hn⟩ | ⟨g, cap, cur, rfl, hb, hgg, hc, hm, hs, ht⟩
  · exact .inl ⟨rfl, List.length_eq_zero_iff.1 hn⟩
  · refine .inr ⟨g, cap, rfl, hb, (Array.getElem?_eq_some_iff.1 hgg).1, hc, hm, fun j x hx => ?_⟩
    rw [cell_of_row w g j cur _ (0, 0) hgg]
    have hx' : (l.map (Value.int .i64))[j]? = some (.int .i64 x) := by rw [List.getElem?_map, hx]; rfl
    rw [← ht, List.getElem?_take] at hx'
    split at hx'
    · simpa using hx'
    · cases hx'
theorem Own.len {w : World} {B : Nat} {v : Value} {l : List Int} (h : Own w B v l) (W : World) : (Builtin.len_ #[37] 3 #[v]).run Tryd.prog W = .ok (.int .i64 l.length) W := by
  rcases h.open with ⟨rfl, rfl⟩ | ⟨g, cap, rfl, _⟩
  · simp [Builtin.len_, go_sem]
  · simp [Builtin.len_, go_sem]
theorem addr_add0 (g j : Nat) : (⟨g, 0, none⟩ : Addr).add j = ⟨g, j, none⟩ := by
  unfold Addr.add; split
  · rename_i h; subst h; rfl
  · simp
theorem cell_one_int (w : World) (x : Int) : ∀ (j : Nat) (u : Int), [x][j]? = some u → (w.alloc (.cells #[.int .i64 x] 3)).cell? ((⟨w.heap.size, 0, none⟩ : Addr).add j) = some (.int .i64 u) := by
  intro j u h
  cases j with
  | zero => simp at h; subst h; simp [Addr.add]
  | succ j => simp at h
/-- The length of a slice in a slot. -/
def lenOf : Value → Nat | .slice _ n _ => n | _ => 0
theorem Own.lenOf {w : World} {B : Nat} {v : Value} {l : List Int} (h : Own w B v l) : lenOf v = l.length := by
  rcases h.open with ⟨rfl, rfl⟩ | ⟨g, cap, rfl, _⟩ <;> rfl
theorem Own.pop {w : World} {B g n cap : Nat} {l : List Int} {x : Int} (h : Own w B (.slice (some ⟨g, 0, none⟩) n cap) (l ++ [x])) : Own w B (.slice (some ⟨g, 0, none⟩) l.length cap) l := by
  refine ⟨by simp, .inr ?_⟩
  rcases h.2 with ⟨he, _⟩ | ⟨g', cap', cur, he, hB, hgg, hc, hm, hs, ht⟩
  · cases he
  · injection he with h1 h2 h3
    injection h1 with h1
    injection h1 with h1 _ _
    subst h1 h3
    refine ⟨g, cap, cur, rfl, hB, hgg, by simp at hc; omega, hm, hs, ?_⟩
    have := congrArg (List.take (l.length * 1)) ht
    rw [List.take_take, Nat.min_eq_left (by simp)] at this
    rw [this]; simp
theorem Own.free {w : World} {B g n cap : Nat} {l : List Int} (h : Own w B (.slice (some ⟨g, 0, none⟩) n cap) l) (i : Nat) : w.frozen? ⟨g, i, none⟩ = false := by
  rcases h.2 with ⟨he, _⟩ | ⟨g', cap', cur, he, hB, hgg, _⟩
  · cases he
  · injection he with h1 h2 h3
    injection h1 with h1
    injection h1 with h1 _ _
    subst h1
    exact frozen_of_row w g i cur _ hgg
theorem Own.len_eq {w : World} {B n cap : Nat} {a : Option Addr} {l : List Int} (h : Own w B (.slice a n cap) l) : n = l.length := by
  have := h.lenOf; exact this
theorem Own.set {w : World} {B g n cap k : Nat} {l : List Int} {x : Int} (h : Own w B (.slice (some ⟨g, 0, none⟩) n cap) l) : Own (w.setCell ⟨g, k, none⟩ (.int .i64 x)) B (.slice (some ⟨g, 0, none⟩) n cap) (l.set k x) := by
  have hn := h.len_eq
  subst hn
  unfold Own
  rw [List.length_set]
  refine ⟨by simp, .inr ?_⟩
  rcases h.2 with ⟨he, _⟩ | ⟨g', cap', cur, he, hB, hgg, hc, hm, hs, ht⟩
  · cases he
  · injection he with h1 h2 h3
    injection h1 with h1
    injection h1 with h1 _ _
    subst h1 h3
    refine ⟨g, cap, cur.setIfInBounds k (.int .i64 x), rfl, hB, heap_setCell_same w g k cur _ _ hgg, hc, hm, by simpa using hs, ?_⟩
    rw [Array.toList_setIfInBounds, List.take_set, ht, List.map_set]
theorem Own.other {w : World} {B : Nat} {v : Value} {l : List Int} (h : Own w B v l) {a : Addr} (ha : a.block < B) (u : Value) : Own (w.setCell a u) B v l := ownsRow_setCell_below h ha u
theorem mixed_step (f : Int → Int) {L : List Int} {k : Nat} {x : Int} (h : L[k]? = some x) : ((L.take k).map f ++ L.drop k).set k (f x) = (L.take (k + 1)).map f ++ L.drop (k + 1) := by
  have hk : k < L.length := (List.getElem?_eq_some_iff.1 h).1
  have hx : L[k] = x := (List.getElem?_eq_some_iff.1 h).2
  have hlen : ((L.take k).map f).length = k := by simp; omega
  rw [List.set_append_right _ _ (by omega), hlen, take_snoc h, Nat.sub_self, List.drop_eq_getElem_cons hk, hx]
  simp
theorem mixed_get (f : Int → Int) {L : List Int} {k : Nat} {x : Int} (h : L[k]? = some x) : ((L.take k).map f ++ L.drop k)[k]? = some x := by
  have hk : k < L.length := (List.getElem?_eq_some_iff.1 h).1
  rw [List.getElem?_append_right (by simp; omega), List.length_map, List.length_take, Nat.min_eq_left (by omega), Nat.sub_self, List.getElem?_drop]
  simpa using h
theorem mixed_len (f : Int → Int) (L : List Int) (k : Nat) : ((L.take k).map f ++ L.drop k).length = L.length := by simp; omega
theorem intInfo : (Tryd.prog.info? 3).map (fun i => (i.zero, i.size, i.bytes)) = some (some (.int .i64 0), 1, 8) := by kernel_rfl
/-- Where a slice lies behind an append: where it lay, or in a new block. -/
def Fresh (w : World) (v v' : Value) : Prop := v'.ownBlock = v.ownBlock ∨ ∃ k, v'.ownBlock = some k ∧ w.heap.size ≤ k
theorem append_fresh {P : Program} (w : World) (base : Nat) (t ty e : TypeId) (i : TypeInfo) (z : Value) (size bytes : Nat) (ht : P.underlying t = some (.slice e)) (hi : P.info? e = some i) (hz : i.zero = some z)
    (hsize : i.size = size) (hby : i.bytes = bytes) (hzs : z.cells.size = size) (hsz : 0 < size)
    (v : Value) (n : Nat) (xs : List Value) (hown : w.ownsRow base e size v n xs)
    (a : Addr) (m c : Nat) (news : List Value) (hl : news.length = m * size) (hnews : ∀ j u, news[j]? = some u → w.cell? (a.add j) = some u) (h1 : ∀ u ∈ news, u.oneCell' = true)
    (h63 : n + m ≤ maxLen) (hbytes : (n + m) * bytes ≤ 140737488355328) {v' : Value} {w' : World}
    (hr : (Builtin.append_ #[t, t] ty #[v, .slice (some a) m c]).run P w = .ok v' w') : Fresh w v v' := by
  rcases hown.2 with ⟨rfl, rfl⟩ | ⟨g, cap, cur, rfl, hbg, hg, hnc, hcm, hcs, htake⟩
  · have hx : xs = [] := List.eq_nil_of_length_eq_zero (by simpa using hown.1)
    subst hx
    obtain ⟨v2, w2, hr2, hown2, hgr2, hnil⟩ := run_append_own (P := P) w w.heap.size t ty e i z size bytes ht hi hz hsize hby hzs hsz (.slice none 0 0) 0 [] (World.ownsRow_nil w _ e size) a m c news hl hnews h1 h63 hbytes (Nat.le_refl _)
    rw [hr] at hr2
    injection hr2 with e1 e2
    subst e1 e2
    cases hb : v'.ownBlock with
    | none => exact .inl (by rw [hb]; rfl)
    | some k => exact .inr ⟨k, hb, (hown2.lt k hb).1⟩
  · by_cases hroom : n + m ≤ cap
    · obtain ⟨w2, hr2, _, _⟩ := run_append_fits (P := P) w base t ty e i size ht hi hsize g n cap xs hown a m c news hl hnews h1 hroom
      rw [hr] at hr2
      injection hr2 with e1 e2
      subst e1
      exact .inl rfl
    · subst hsize hby
      have holds : ∀ j u, xs[j]? = some u → w.cell? ((⟨g, 0, none⟩ : Addr).add j) = some u := hown.cells (g := g) rfl
      have hr2 := run_append_grow (P := P) w t ty e i z ht hi hz ⟨g, 0, none⟩ n cap xs hown.1 holds a m c news hl hnews (by omega) (by simp only [maxLen] at h63; omega) (growslice_fits (by omega) hbytes)
      rw [hr] at hr2
      injection hr2 with e1 e2
      subst e1
      exact .inr ⟨_, rfl, Nat.le_refl _⟩
theorem wpList_append_int {ops : Array Oper} {rest : List Oper} {o : Oper} {a : Act} {w : World} {Q : Exit → Act → World → Prop} (hgd : o.guard = none) (s x : Operand)
    (ho : o.op = .call { callee := .builtin .append, args := #[s, x], argTypes := #[37, 37] })
    (B : Nat) (v : Value) (l : List Int) (hs : a.eval s = v) (hown : Own w B v l)
    (ad : Addr) (m c : Nat) (news : List Int) (hx : a.eval x = .slice (some ad) m c) (hl : news.length = m) (hnews : ∀ j u, news[j]? = some u → w.cell? (ad.add j) = some (.int .i64 u))
    (hlen : l.length + m ≤ 1000000) (hbase : B ≤ w.heap.size)
    (h : ∀ v' w', Own w' B v' (l ++ news) → w.grownBy w' v.ownBlock → Fresh w v v' → wpList Tryd.prog ops Q rest (a.put o.dst v') w') : wpList Tryd.prog ops Q (o :: rest) a w := by
  obtain ⟨i0, hi, hz0, hz1, hz2⟩ := info_parts intInfo
  have hnews' : ∀ j u, (news.map (Value.int .i64))[j]? = some u → w.cell? (ad.add j) = some u := by
    intro j u hu
    rw [List.getElem?_map, Option.map_eq_some_iff] at hu
    obtain ⟨y, hy, rfl⟩ := hu
    exact hnews j y hy
  have hone : ∀ u ∈ news.map (Value.int .i64), u.oneCell' = true := by
    intro u hu
    rw [List.mem_map] at hu
    obtain ⟨y, _, rfl⟩ := hu
    rfl
  have h63 : l.length + m ≤ maxLen := by unfold maxLen; omega
  obtain ⟨v', w', hr, hown', hgr, _⟩ := run_append_own (P := Tryd.prog) w B 37 o.type 3 i0 (.int .i64 0) 1 8 Tryd.underlying37 hi hz0 hz1 hz2 rfl (by decide) v l.length _ hown ad m c (news.map (Value.int .i64)) (by simp [hl]) hnews' hone h63 (by omega) hbase
  have hf := append_fresh (P := Tryd.prog) w B 37 o.type 3 i0 (.int .i64 0) 1 8 Tryd.underlying37 hi hz0 hz1 hz2 rfl (by decide) v l.length _ hown ad m c (news.map (Value.int .i64)) (by simp [hl]) hnews' hone h63 (by omega) hr
  refine wpList_plain hgd fun K hK => ?_
  unfold Oper.wp execOp
  simp only [ho, resolve, invoke, builtin, Sem.run_bind, Sem.run_pure, Result.andThen_ok, List.map_toArray, List.map_cons, List.map_nil, hs, hx, hr]
  refine hK _ _ (h v' w' ?_ hgr hf)
  unfold Own
  rw [List.map_append, List.length_append, hl]
  exact hown'

theorem Fresh.refl (w : World) (v : Value) : Fresh w v v := .inl rfl
/-- What is appended is another row, or none. -/
theorem wpList_append_own {ops : Array Oper} {rest : List Oper} {o : Oper} {a : Act} {w : World} {Q : Exit → Act → World → Prop} (hgd : o.guard = none) (s x : Operand)
    (ho : o.op = .call { callee := .builtin .append, args := #[s, x], argTypes := #[37, 37] })
    (B : Nat) (v : Value) (l : List Int) (hs : a.eval s = v) (hown : Own w B v l)
    (B2 : Nat) (vx : Value) (news : List Int) (hx : a.eval x = vx) (hown2 : Own w B2 vx news)
    (hlen : l.length + news.length ≤ 1000000) (hbase : B ≤ w.heap.size)
    (h : ∀ v' w', Own w' B v' (l ++ news) → w.grownBy w' v.ownBlock → Fresh w v v' → wpList Tryd.prog ops Q rest (a.put o.dst v') w') : wpList Tryd.prog ops Q (o :: rest) a w := by
  rcases hown2.open with ⟨rfl, rfl⟩ | ⟨g, cap, rfl, _, _, _, _, hcell⟩
  · obtain ⟨i0, hi, hz0, hz1, hz2⟩ := info_parts intInfo
    have hr := run_append_owned_none (P := Tryd.prog) w B 37 o.type 3 i0 1 Tryd.underlying37 hi v l.length _ hown
    refine wpList_plain hgd fun K hK => ?_
    unfold Oper.wp execOp
    simp only [ho, resolve, invoke, builtin, Sem.run_bind, Sem.run_pure, Result.andThen_ok, List.map_toArray, List.map_cons, List.map_nil, hs, hx, hr]
    exact hK _ _ (h v w (by simpa using hown) ⟨rfl, rfl, rfl, Nat.le_refl _, fun _ _ _ => rfl⟩ (Fresh.refl w v))
  · exact wpList_append_int hgd s x ho B v l hs hown ⟨g, 0, none⟩ news.length cap news hx rfl (fun j u hu => by rw [addr_add0]; exact hcell j u hu) hlen hbase h
end Go.Proofs.YteclmkmemecckaaDoor
