/- The walks of package set: each function comes to what the plain one gives. -/
import Derived.Test.YteclmkmemecckaaDoorVal
import Derived.Shelf.Spec.TrailingZeros
namespace Go.Proofs.YteclmkmemecckaaDoor
open Go.RowKit Wb

set_option maxHeartbeats 400000 in
theorem bit_any (i : Int) (w : World) :
    Calls Tryd.prog 49 #[.int .i64 i] w fun e w' => w = w' ∧ e = .returned (.int .u64 (sv (bit i))) := by
  go_enter Tryd.func49, Tryd.ntmps49
  go_wp2
  · go_ret; exact ⟨rfl, ret_int (sv_bit0 (by assumption))⟩
  · go_ret; exact ⟨rfl, ret_int (sv_bit (by omega) (by omega))⟩
  · go_ret; exact ⟨rfl, ret_int (sv_bit0 (by omega))⟩
set_option maxHeartbeats 400000 in
theorem has_any (s : S) (i : Int) (w : World) :
    Calls Tryd.prog 35 #[.int .u64 (sv s), .int .i64 i] w fun e w' => w = w' ∧ e = .returned (.bool (has s i)) := by
  go_enter Tryd.func35, Tryd.ntmps35
  go_wp2_with (go_at_call 49; refine (bit_any _ _).mono ?_; rintro e w' ⟨rfl, rfl⟩)
  go_ret
  exact ⟨rfl, rfl⟩
set_option maxHeartbeats 400000 in
theorem with_any (s : S) (i : Int) (w : World) :
    Calls Tryd.prog 51 #[.int .u64 (sv s), .int .i64 i] w fun e w' => w = w' ∧ e = .returned (.int .u64 (sv (wth s i))) := by
  go_enter Tryd.func51, Tryd.ntmps51
  go_wp2_with (go_at_call 49; refine (bit_any _ _).mono ?_; rintro e w' ⟨rfl, rfl⟩)
  go_ret
  exact ⟨rfl, rfl⟩
set_option maxHeartbeats 400000 in
theorem less_any (s : S) (i : Int) (w : World) :
    Calls Tryd.prog 66 #[.int .u64 (sv s), .int .i64 i] w fun e w' => w = w' ∧ e = .returned (.int .u64 (sv (less s i))) := by
  go_enter Tryd.func66, Tryd.ntmps66
  go_wp2_with (go_at_call 49; refine (bit_any _ _).mono ?_; rintro e w' ⟨rfl, rfl⟩)
  go_ret
  exact ⟨rfl, rfl⟩

set_option maxHeartbeats 400000 in
theorem of_any0 (b off cap : Nat) (l : List Int) (w : World) (hlen : l.length ≤ 1000000) (hc : ∀ j x, l[j]? = some x → w.cell? ⟨b, off + j, none⟩ = some (.int .i64 x)) :
    Calls Tryd.prog 19 #[.slice (some ⟨b, off, none⟩) l.length cap] w fun e w' => w = w' ∧ e = .returned (.int .u64 (sv (setOf l))) := by
  go_enter Tryd.func19, Tryd.ntmps19
  go_wp2
  go_loop [2, 7] (fun s i => ∃ k : Nat, k ≤ l.length ∧ i = .int .i64 k ∧ s = .int .u64 (sv ((l.take k).foldl wth 0#64))) (fun _ i => l.length - (intOf i).toNat)
  case atStart => exact ⟨0, Nat.zero_le _, rfl, rfl⟩
  case round =>
    obtain ⟨k, hk, rfl, rfl⟩ := hrel
    by_cases hlt : k < l.length
    · obtain ⟨x, hx⟩ := at_lt hlt
      have hck := hc k x hx
      have hs : Hid ((l.take k).foldl wth 0#64 ||| bit x = (l.take (k + 1)).foldl wth 0#64) := by
        show _ = _
        rw [take_snoc hx, List.foldl_append]; rfl
      clear hc hx
      go_wp2_with (go_at_call 49; refine (bit_any _ _).mono ?_; rintro e w' ⟨rfl, rfl⟩)
      go_round
      case rel => exact ⟨k + 1, by omega, by go_num, by rw [hs.out]⟩
      case measure => simp [intOf]; omega
    · have hk' : k = l.length := by omega
      have hf : Hid (sv ((l.take k).foldl wth 0#64) = sv (setOf l)) := by
        show _ = _; rw [hk', List.take_length]; rfl
      clear hc hk'
      go_wp2
      go_ret
      exact ⟨rfl, ret_int hf.out⟩

theorem of_any (b off cap n : Nat) (l : List Int) (w : World) (hn : l.length = n) (hlen : n ≤ 1000000) (hc : ∀ j x, l[j]? = some x → w.cell? ⟨b, off + j, none⟩ = some (.int .i64 x)) :
    Calls Tryd.prog 19 #[.slice (some ⟨b, off, none⟩) n cap] w fun e w' => w = w' ∧ e = .returned (.int .u64 (sv (setOf l))) := by
  subst hn; exact of_any0 b off cap l w hlen hc
set_option maxHeartbeats 400000 in
theorem tz_core (x k idx : Nat) (w : World) (hx0 : ((x : Int) == 0) = false)
    (key : IntKind.u64.wrap (bits BinOp.and IntKind.u64 (x : Int) (IntKind.u64.wrap (-(x : Int))) * 285870213051353865) / 288230376151711744 = (idx : Int))
    (hi : idx < 64) (hk : k < 64) (hcell : w.cell? ⟨0, idx, none⟩ = some (.int .u8 k)) :
    Calls Tryd.prog 67 #[.int .u64 x] w fun e w' => w = w' ∧ e = .returned (.int .i64 k) := by
  go_enter Tryd.func67, Tryd.ntmps67
  go_wp2_with (simp only [key])
  go_ret
  exact ⟨rfl, rfl⟩
theorem tz_any {s : S} (hs : s ≠ 0#64) (w : World) (hT : Tab w) :
    Calls Tryd.prog 67 #[.int .u64 (sv s)] w fun e w' => w = w' ∧ e = .returned (.int .i64 (first s)) := by
  have h0 : s.toNat ≠ 0 := fun e => hs (BitVec.eq_of_toNat_eq (by simpa using e))
  obtain ⟨hlow, hk⟩ := Lib.lowest_bit 64 s.toNat h0 s.isLt
  obtain ⟨hi, htab⟩ := Lib.deBruijn64_at _ hk
  have hcell := hT _ hi
  rw [htab] at hcell
  have := tz_core s.toNat _ _ w (by simp; omega) (tz64_key s.toNat _ s.isLt h0 hlow) hi hk hcell
  rw [ctz_first hs] at this
  exact this
set_option maxHeartbeats 400000 in
theorem first_any (s : S) (w : World) (hT : Tab w) :
    Calls Tryd.prog 34 #[.int .u64 (sv s)] w fun e w' => w = w' ∧ e = .returned (.int .i64 (first s)) := by
  by_cases h : s = 0#64
  · have hb : (s == 0#64) = true := by simp [h]
    have hf : Hid (first s = -1) := by show _ = _; rw [h, first_zero]
    clear h
    go_enter Tryd.func34, Tryd.ntmps34
    go_wp2
    go_ret
    exact ⟨rfl, ret_int hf.out.symm⟩
  · have hb : (s == 0#64) = false := by simp [h]
    have hc := tz_any h w hT
    clear h hT
    have hc' := Lib.hid hc
    clear hc
    go_enter Tryd.func34, Tryd.ntmps34
    go_wp2_with (go_at_call 67; refine hc'.out.mono ?_; rintro e w' ⟨rfl, rfl⟩)
    go_ret
    exact ⟨rfl, rfl⟩

/-- The round of 'Items': what is left in slot 0, what is told in slot 2. -/
def ItemsJ (w0 : World) (s0 : S) (a' : Act) (w' : World) : Prop :=
  ∃ (s : S) (v : Value) (pre : List Int) (u1 u3 u4 u5 u6 u7 u8 u9 u10 u11 u12 u13 u14 u15 : Value),
    a' = { tmps := #[.int .u64 (sv s), u1, v, u3, u4, u5, u6, u7, u8, u9, u10, u11, u12, u13, u14, u15], defers := [] } ∧
    Own w' w0.heap.size v pre ∧ Below w0.heap.size w0 w' ∧ pre ++ items s = items s0
set_option maxHeartbeats 1000000 in
theorem items_any (s : S) (w : World) (hT : Tab w) :
    Calls Tryd.prog 32 #[.int .u64 (sv s)] w fun e w' => ∃ v, e = .returned v ∧ Own w' w.heap.size v (items s) ∧ Below w.heap.size w w' := by
  go_enter Tryd.func32, Tryd.ntmps32
  go_wp2
  refine wp_scope_loop 0 (ItemsJ w s) (fun a' _ => (items (BitVec.ofInt 64 (intOf (a'.tmps.getD 0 undef)))).length) ?_ ?_
  · exact ⟨s, _, [], _, _, _, _, _, _, _, _, _, _, _, _, _, _, rfl, Own.nil _ _, Below.refl _ _, by simp⟩
  · rintro a' wr ⟨t, v, pre, u1, u3, u4, u5, u6, u7, u8, u9, u10, u11, u12, u13, u14, u15, rfl, hown, hb, hpre⟩
    have hT' := hT.next hb
    have hT'' : Hid (Tab wr) := hT'
    have hPre : Hid (pre ++ items t = items s) := hpre
    clear hT hT' hpre
    by_cases h : t = 0#64
    · have ht : (t == 0#64) = true := by simp [h]
      have hfin : Hid (pre = items s) := by show _ = _; rw [← hPre.out, h, items_zero, List.append_nil]
      clear h
      go_wp2
      simp only [Exit.jump]
      go_ret
      refine ⟨_, rfl, ?_, hb⟩
      rw [← hfin.out]
      exact hown
    · have ht : (t == 0#64) = false := by simp [h]
      have hlen : pre.length + 1 ≤ 1000000 := by
        have h1 := congrArg List.length hPre.out
        have h2 := items_length s
        rw [List.length_append] at h1
        omega
      have hsz := hb.size
      have hcons : Hid (items t = first t :: items (less t (first t))) := items_cons h
      clear h
      go_wp2_with (first | (go_at_call 34; refine (first_any _ _ hT''.out).mono ?_; rintro e w' ⟨rfl, rfl⟩) | (go_at_call 66; refine (less_any _ _ _).mono ?_; rintro e w' ⟨rfl, rfl⟩) | (at_builtin; refine wpList_append_int rfl _ _ rfl w.heap.size v pre rfl (hown.alloc _) ⟨wr.heap.size, 0, none⟩ 1 1 [first t] rfl rfl (cell_one_int _ _) hlen (by simp; omega) ?_; intro v' w1 hown1 hg1 _))
      go_step3
      refine ⟨rfl, ⟨less t (first t), v', pre ++ [first t], _, _, _, _, _, _, _, _, _, _, _, _, _, _, rfl, hown1, ?_, ?_⟩, ?_⟩
      · exact (hb.alloc hsz _).grown hg1 (by simp; omega) (fun k hk => (hown.lt k hk).1)
      · rw [List.append_assoc, List.singleton_append, ← hcons.out]; exact hPre.out
      · show (items (BitVec.ofInt 64 (sv (less t (first t))))).length < (items (BitVec.ofInt 64 (sv t))).length
        rw [ofInt_sv, ofInt_sv, hcons.out]; simp
end Go.Proofs.YteclmkmemecckaaDoor
