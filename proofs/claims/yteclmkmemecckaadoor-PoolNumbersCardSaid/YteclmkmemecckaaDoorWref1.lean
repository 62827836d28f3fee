/- The walks of the reference of sets: bit by bit. -/
import Derived.Test.YteclmkmemecckaaDoorPenc
namespace Go.Proofs.YteclmkmemecckaaDoor
open Go.RowKit Wb

theorem sv_bit_nat {k : Nat} (h : k < 64) : sv (bit (k : Int)) = ((2 ^ k : Nat) : Int) := by
  unfold sv bit
  rw [if_neg (by omega), BitVec.toNat_twoPow, Int.toNat_natCast, Nat.mod_eq_of_lt (Nat.pow_lt_pow_right (by omega) h)]
theorem sv_bit_pos {k : Nat} (h : k < 64) : 1 ≤ sv (bit (k : Int)) := by
  rw [sv_bit_nat h]; have := Nat.pow_pos (n := k) (show 0 < 2 by omega); omega
theorem sv_bit_step {k : Nat} (h : k + 1 < 64) : IntKind.u64.wrap (sv (bit (k : Int)) * 2) = sv (bit ((k + 1 : Nat) : Int)) := by
  rw [sv_bit_nat (by omega), sv_bit_nat h, IntKind.wrap_u64, Nat.pow_succ]
  have h1 : (2 ^ (k + 1) : Nat) < 2 ^ 64 := Nat.pow_lt_pow_right (by omega) h
  rw [Nat.pow_succ] at h1
  generalize (2 ^ k : Nat) = q at h1 ⊢
  omega
theorem has_div (s : S) {k : Nat} (h : k < 64) : (sv s / sv (bit (k : Int)) % 2 == 1) = has s (k : Int) := by
  rw [sv_bit_nat h, has_nat]
  unfold sv
  have : s.getLsbD k = s.toNat.testBit k := rfl
  rw [this, Nat.testBit_eq_decide_div_mod_eq, Bool.eq_iff_iff, beq_iff_eq, decide_eq_true_eq]
  generalize (2 ^ k : Nat) = q
  rw [← Int.natCast_ediv]
  generalize s.toNat / q = r
  omega
theorem has_divt (s : S) {k : Nat} (h : k < 64) : ((IntKind.u64.wrap ((sv s).tdiv (sv (bit (k : Int))))).tmod 2 == 1) = has s (k : Int) := by
  have h1 := sv_nonneg s
  have h2 := sv_lt s
  have h3 := sv_bit_pos h
  rw [Int.tdiv_eq_ediv_of_nonneg h1]
  have h4 : 0 ≤ sv s / sv (bit (k : Int)) := Int.ediv_nonneg h1 (by omega)
  have h5 : sv s / sv (bit (k : Int)) ≤ sv s := Int.ediv_le_self _ h1
  have e : IntKind.u64.wrap (sv s / sv (bit (k : Int))) = sv s / sv (bit (k : Int)) := by
    rw [IntKind.wrap_u64]; exact Int.emod_eq_of_lt h4 (by omega)
  rw [e, Int.tmod_eq_emod_of_nonneg h4]
  exact has_div s h
set_option maxHeartbeats 1000000 in
theorem power_any (n : Nat) (hn : n < 64) (w : World) :
    Calls Tryd.prog 86 #[.int .i64 (n : Int)] w fun e w' => w = w' ∧ e = .returned (.int .u64 (sv (bit (n : Int)))) := by
  go_enter Tryd.func86, Tryd.ntmps86
  go_wp2
  go_loop [3, 4] (fun p i => ∃ k : Nat, k ≤ n ∧ i = .int .i64 k ∧ p = .int .u64 (sv (bit (k : Int)))) (fun _ i => n - (intOf i).toNat)
  case atStart => exact ⟨0, Nat.zero_le _, rfl, by rw [sv_bit_nat (by decide)]; rfl⟩
  case round =>
    obtain ⟨k, hk, rfl, rfl⟩ := hrel
    by_cases hlt : k < n
    · have hs := Lib.hid (sv_bit_step (k := k) (by omega))
      have hnn := sv_nonneg (bit (k : Int))
      go_wp2
      go_round
      case rel => exact ⟨k + 1, by omega, by go_num, by rw [← hs.out]⟩
      case measure => simp [intOf]; omega
    · have hkn : k = n := by omega
      subst hkn
      go_wp2
      go_ret
      exact ⟨rfl, rfl⟩
set_option maxHeartbeats 1000000 in
theorem hasr_any (s : S) (i : Int) (w : World) :
    Calls Tryd.prog 62 #[.int .u64 (sv s), .int .i64 i] w fun e w' => w = w' ∧ e = .returned (.bool (has s i)) := by
  by_cases h0 : 0 ≤ i
  · by_cases h1 : i < 64
    · obtain ⟨k, rfl⟩ : ∃ k : Nat, i = (k : Int) := ⟨i.toNat, by omega⟩
      have hd := Lib.hid (has_divt s (k := k) (by omega))
      have hp := sv_bit_pos (k := k) (by omega)
      have hs := sv_nonneg s
      have hk : k < 64 := by omega
      go_enter Tryd.func62, Tryd.ntmps62
      go_wp2_with (first | (go_at_call 86; refine (power_any k hk _).mono ?_; rintro e w' ⟨rfl, rfl⟩))
      go_ret
      exact ⟨rfl, ret_bool hd.out⟩
    · have hf : Hid (has s i = false) := by
        show _ = _
        cases h : has s i with
        | false => rfl
        | true => have := has_range h; omega
      go_enter Tryd.func62, Tryd.ntmps62
      go_wp2
      go_ret
      exact ⟨rfl, ret_bool hf.out.symm⟩
  · have hf : Hid (has s i = false) := by
      show _ = _
      cases h : has s i with
      | false => rfl
      | true => have := has_range h; omega
    go_enter Tryd.func62, Tryd.ntmps62
    go_wp2
    go_ret
    exact ⟨rfl, ret_bool hf.out.symm⟩
theorem sv_add (a b : S) : IntKind.u64.wrap (sv a + sv b) = sv (a + b) := by
  unfold sv; rw [BitVec.toNat_add, IntKind.wrap_u64]; omega
theorem sv_sub (a b : S) : IntKind.u64.wrap (sv a - sv b) = sv (a - b) := by
  unfold sv; rw [BitVec.toNat_sub, IntKind.wrap_u64]; have := a.isLt; have := b.isLt; omega
/-- Bits that are not there are added. -/
theorem add_or {a b : S} (h : a &&& b = 0#64) : a + b = a ||| b := BitVec.add_eq_or_of_and_eq_zero _ _ h
theorem has_bit (i j : Int) : has (bit i) j = (decide (j = i) && decide (0 ≤ i ∧ i < 64)) := by
  have := has_wth 0#64 i j
  rw [has_zero, Bool.false_or] at this
  rw [← this]
  unfold wth
  rw [BitVec.zero_or]
theorem sub_bit {s : S} {i : Int} (h : has s i = true) : s - bit i = less s i := by
  obtain ⟨h0, h1⟩ := has_range h
  have e1 : less s i &&& bit i = 0#64 := by
    refine set_ext fun j => ?_
    rw [has_and, has_less, has_bit, has_zero]
    by_cases e : j = i <;> simp [e]
  have e2 : less s i ||| bit i = s := by
    refine set_ext fun j => ?_
    rw [has_or, has_less, has_bit]
    by_cases e : j = i
    · subst e; simp [h, h0, h1]
    · simp [e]
  have e3 := add_or e1
  rw [e2] at e3
  have e4 : less s i + bit i - bit i = less s i := BitVec.add_sub_cancel _ _
  rw [e3] at e4
  exact e4
set_option maxHeartbeats 1000000 in
theorem lessr_any (s : S) (i : Int) (w : World) :
    Calls Tryd.prog 80 #[.int .u64 (sv s), .int .i64 i] w fun e w' => w = w' ∧ e = .returned (.int .u64 (sv (less s i))) := by
  cases h : has s i with
  | false =>
    have hl : Hid (less s i = s) := by
      show _ = _
      refine set_ext fun j => ?_
      rw [has_less]
      by_cases e : j = i
      · subst e; rw [h]; simp
      · simp [e]
    have h' := Lib.hid h
    clear h
    go_enter Tryd.func80, Tryd.ntmps80
    go_wp2_with (first | (go_at_call 62; refine (hasr_any _ _ _).mono ?_; rintro e w' ⟨rfl, rfl⟩; rw [h'.out]))
    go_ret
    exact ⟨rfl, by rw [hl.out]; rfl⟩
  | true =>
    obtain ⟨h0, h1⟩ := has_range h
    obtain ⟨k, rfl⟩ : ∃ k : Nat, i = (k : Int) := ⟨i.toNat, by omega⟩
    have hk : k < 64 := by omega
    have hl : Hid (IntKind.u64.wrap (sv s - sv (bit (k : Int))) = sv (less s k)) := by
      show _ = _
      rw [sv_sub, sub_bit h]
    have h' := Lib.hid h
    clear h
    go_enter Tryd.func80, Tryd.ntmps80
    go_wp2_with (first | (go_at_call 62; refine (hasr_any _ _ _).mono ?_; rintro e w' ⟨rfl, rfl⟩; rw [h'.out]) | (go_at_call 86; refine (power_any k hk _).mono ?_; rintro e w' ⟨rfl, rfl⟩))
    go_ret
    exact ⟨rfl, by rw [hl.out]; rfl⟩
set_option maxHeartbeats 1000000 in
theorem withr_any (s : S) (i : Int) (w : World) :
    Calls Tryd.prog 81 #[.int .u64 (sv s), .int .i64 i] w fun e w' => w = w' ∧ e = .returned (.int .u64 (sv (wth s i))) := by
  by_cases h0 : i < 0
  · have hl : Hid (wth s i = s) := by
      show _ = _
      refine set_ext fun j => ?_
      rw [has_wth]
      have : ¬ (0 ≤ i ∧ i < 64) := by omega
      simp [this]
    go_enter Tryd.func81, Tryd.ntmps81
    go_wp2
    go_ret
    exact ⟨rfl, by rw [hl.out]; rfl⟩
  by_cases h1 : 63 < i
  · have hl : Hid (wth s i = s) := by
      show _ = _
      refine set_ext fun j => ?_
      rw [has_wth]
      have : ¬ (0 ≤ i ∧ i < 64) := by omega
      simp [this]
    go_enter Tryd.func81, Tryd.ntmps81
    go_wp2
    go_ret
    exact ⟨rfl, by rw [hl.out]; rfl⟩
  cases h : has s i with
  | true =>
    have hl : Hid (wth s i = s) := wth_had h
    have h' := Lib.hid h
    clear h
    go_enter Tryd.func81, Tryd.ntmps81
    go_wp2_with (first | (go_at_call 62; refine (hasr_any _ _ _).mono ?_; rintro e w' ⟨rfl, rfl⟩; rw [h'.out]))
    go_ret
    exact ⟨rfl, by rw [hl.out]; rfl⟩
  | false =>
    obtain ⟨k, rfl⟩ : ∃ k : Nat, i = (k : Int) := ⟨i.toNat, by omega⟩
    have hk : k < 64 := by omega
    have hl : Hid (IntKind.u64.wrap (sv s + sv (bit (k : Int))) = sv (wth s k)) := by
      show _ = _
      rw [sv_add, add_or]
      · rfl
      · refine set_ext fun j => ?_
        rw [has_and, has_bit, has_zero]
        by_cases e : j = (k : Int)
        · subst e; rw [h]; rfl
        · simp [e]
    have h' := Lib.hid h
    clear h
    go_enter Tryd.func81, Tryd.ntmps81
    go_wp2_with (first | (go_at_call 62; refine (hasr_any _ _ _).mono ?_; rintro e w' ⟨rfl, rfl⟩; rw [h'.out]) | (go_at_call 86; refine (power_any k hk _).mono ?_; rintro e w' ⟨rfl, rfl⟩))
    go_ret
    exact ⟨rfl, by rw [hl.out]; rfl⟩

/-! ### bits in a row of sixty-four -/
def eb (b : Bool) : Value := .bool b
def encB (f : Nat → Bool) : Array Value := encA eb 64 f
theorem encB_size (f : Nat → Bool) : (encB f).size = 64 := encA_size _ _ _
attribute [go_sem] encB_size
@[go_sem] theorem encB_get (f : Nat → Bool) (i : Nat) (h : i < 64) : (encB f)[i]? = some (.bool (f i)) := encA_get eb 64 f i h
@[go_sem] theorem encB_getElem (f : Nat → Bool) (i : Nat) (h : i < (encB f).size) : (encB f)[i] = .bool (f i) := by
  have h1 := encB_get f i (by rw [encB_size] at h; exact h)
  rw [Array.getElem?_eq_getElem h] at h1; exact Option.some.inj h1
@[go_sem] theorem encB_set (f : Nat → Bool) (i : Nat) (b : Bool) : (encB f).setIfInBounds i (.bool b) = encB (upd f i b) := encA_set eb 64 f i b
theorem encB_all (f : Nat → Bool) : (encB f).all (·.oneCell') = true := encA_all _ _ _ fun _ => rfl
@[go_sem] theorem extract_encB (f : Nat → Bool) : (encB f).extract 0 64 = encB f := extract_all _ _ (encB_size f)
@[go_sem] theorem splice_encB (f g : Nat → Bool) : splice (encB f) 0 (encB g) = encB g := splice_all _ _ (by rw [encB_size, encB_size])
theorem arrBits : ArrT 118 64 := ⟨.inl ⟨_, _, Tryd.underlying118⟩, by kernel_rfl⟩
set_option maxRecDepth 10000 in
theorem zeroBits : (Tryd.prog.info? 118).map (·.zero) = some (some (.agg (encB fun _ => false))) := by kernel_rfl
def bitsTo (s : S) (k : Nat) : Nat → Bool := fun i => decide (i < k) && s.getLsbD i
theorem bitsTo_step (s : S) (k : Nat) : upd (bitsTo s k) k (s.getLsbD k) = bitsTo s (k + 1) := by
  funext i
  unfold upd bitsTo
  by_cases h : i = k
  · subst h; simp
  · have : i < k + 1 ↔ i < k := by omega
    simp [h, this]
theorem encB_bits (s : S) : encB (bitsTo s 64) = encB fun i => s.getLsbD i := encA_ext _ _ _ _ fun i hi => by simp [bitsTo, hi]
theorem bits_step (s : S) (k : Nat) : ((sv (s >>> k)).tmod 2 == 1) = s.getLsbD k := by
  have h := sv_nonneg (s >>> k)
  rw [Int.tmod_eq_emod_of_nonneg h]
  unfold sv
  have : s.getLsbD k = s.toNat.testBit k := rfl
  rw [this, BitVec.toNat_ushiftRight, Nat.testBit_eq_decide_div_mod_eq, Nat.shiftRight_eq_div_pow, Bool.eq_iff_iff, beq_iff_eq, decide_eq_true_eq]
  omega
theorem bits_half (s : S) (k : Nat) : IntKind.u64.wrap ((sv (s >>> k)).tdiv 2) = sv (s >>> (k + 1)) := by
  have h := sv_nonneg (s >>> k)
  have h2 := sv_lt (s >>> k)
  rw [Int.tdiv_eq_ediv_of_nonneg h, IntKind.wrap_u64, Int.emod_eq_of_lt (by omega) (by omega)]
  unfold sv
  rw [BitVec.toNat_ushiftRight, BitVec.toNat_ushiftRight, Nat.shiftRight_succ]
  omega
set_option maxHeartbeats 1000000 in
theorem bits_any (s : S) (w : World) :
    Calls Tryd.prog 83 #[.int .u64 (sv s)] w fun e w' => e = .returned (.agg (encB fun i => s.getLsbD i)) ∧ Below w.heap.size w w' := by
  go_enter Tryd.func83, Tryd.ntmps83
  go_wp2_with (first | (with_reducible refine wpList_alloc_val zeroBits ?_))
  have hz0 : (fun _ => false) = bitsTo s 0 := by funext i; simp [bitsTo]
  rw [hz0]
  clear hz0
  go_loopw [0, 4] (fun sv' i wr => ∃ k : Nat, k ≤ 64 ∧ i = .int .i64 k ∧ sv' = .int .u64 (sv (s >>> k)) ∧ wr = (w.alloc (.cells (encB (bitsTo s 0)) 118)).alloc (.cells (encB (bitsTo s k)) 118)) (fun _ i _ => 64 - (intOf i).toNat)
  case atStart => exact ⟨0, Nat.zero_le _, rfl, by rw [BitVec.ushiftRight_zero], rfl⟩
  case round =>
    obtain ⟨k, hk, rfl, rfl, rfl⟩ := hrel
    by_cases hlt : k < 64
    · have hs := Lib.hid (bitsTo_step s k)
      have hb := Lib.hid (bits_step s k)
      have hh := Lib.hid (bits_half s k)
      go_wp2
      exact ⟨⟨k + 1, by omega, by go_num, by rw [hh.out], by rw [hb.out, hs.out]⟩, by simp [intOf]; omega⟩
    · have hk64 : k = 64 := by omega
      subst hk64
      have hs : Hid (encB (bitsTo s 64) = encB fun i => s.getLsbD i) := encB_bits s
      generalize bitsTo s 64 = f at *
      generalize bitsTo s 0 = f0 at *
      go_wp2_with (first | ((with_reducible refine wpList_load_arr arrBits ?_ ?_); go_simp; go_simp) | ((with_reducible refine wpList_store_arr arrBits (vs := encB f) ?_ ?_ (encB_size _) (encB_all _) ?_); exact rfl; go_simp; go_simp))
      exact bodyPost_ret (res_c arrBits (cs := encB f) rfl _ _ rfl (by go_simp)) rfl ⟨by rw [hs.out], below2 w _ _⟩
end Go.Proofs.YteclmkmemecckaaDoor
