/- The walks of Theirs and of the law TopoSorted. -/
import Derived.Test.YteclmkmemecckaaDoorEdge
import Derived.Test.YteclmkmemecckaaDoorInv
namespace Wb
def upTo (m : M) (k : Nat) : M := fun i => if i < k then m i else 0#64
theorem upTo_step (m : M) (k : Nat) : upd (upTo m k) k (m k) = upTo m (k + 1) := by
  funext i
  unfold upd upTo
  by_cases h : i = k
  · subst h; simp
  · have : i < k + 1 ↔ i < k := by omega
    simp [h, this]
theorem upTo_zero (m : M) : upTo m 0 = Z := by funext i; simp [upTo]
/-- Does an edge go from a to one of those ahead of it, or to itself? -/
def dnIn (m : M) (a : Int) (l : List Int) : Bool := l.any fun b => has (outs m a) b
def dnAt (m : M) (l : List Int) (i : Nat) : Bool := dnIn m (l.getD i 0) (l.take i) || has (outs m (l.getD i 0)) (l.getD i 0)
def dn (m : M) (l : List Int) (k : Nat) : Bool := (List.range k).any (dnAt m l)
theorem dn_step (m : M) (l : List Int) (k : Nat) : dn m l (k + 1) = (dn m l k || dnAt m l k) := by unfold dn; rw [List.range_succ, List.any_append]; simp
theorem dnIn_step (m : M) (a : Int) {l : List Int} {q : Nat} {b : Int} (h : l[q]? = some b) : dnIn m a (l.take (q + 1)) = (dnIn m a (l.take q) || has (outs m a) b) := by
  unfold dnIn
  have h1 := List.getElem?_eq_some_iff.1 h
  obtain ⟨h2, h3⟩ := h1
  rw [List.take_succ_eq_append_getElem h2, h3, List.any_append]; simp
theorem row_at {o : O} (h : right o = true) {i : Nat} (hi : i < 32) : (row o)[(o i).toNat]? = some (i : Int) := by
  have hR := (right_iff o).1 h
  have h0 := hR.lo i hi
  have h1 := hR.hi i hi
  unfold row
  rw [h]
  simp only [Bool.not_true, Bool.false_eq_true, if_false, rowO, List.getElem?_map, List.getElem?_range (show (o i).toNat < 32 by omega), Option.map_some]
  rw [at_of hR hi]
theorem sorted_dn (m : M) (o : O) : sorted m o = (right o && !dn m (row o) (row o).length) := by
  cases hr : right o with
  | false =>
    rw [Bool.false_and]
    cases hs : sorted m o with
    | false => rfl
    | true => have := ((sorted_iff m o).1 hs).1; rw [(right_iff o).2 this] at hr; cases hr
  | true =>
    have hR := (right_iff o).1 hr
    rw [Bool.true_and, row_length hr]
    have key : dn m (row o) 32 = true ↔ ∃ a b, Edge m a b ∧ o b.toNat ≤ o a.toNat := by
      unfold dn
      rw [List.any_eq_true]
      constructor
      · rintro ⟨i, hi, hd⟩
        have hi' := List.mem_range.1 hi
        obtain ⟨x, hx⟩ : ∃ x, (row o)[i]? = some x := ⟨(row o)[i]'(by rw [row_length hr]; exact hi'), List.getElem?_eq_getElem _⟩
        have hg : (row o).getD i 0 = x := by rw [List.getD_eq_getElem?_getD, hx]; rfl
        obtain ⟨p, hp, hp32, hop⟩ := row_get hr hx
        unfold dnAt dnIn at hd
        rw [hg, Bool.or_eq_true, List.any_eq_true] at hd
        rcases hd with ⟨b, hb, he⟩ | he
        · obtain ⟨j, hj⟩ := List.mem_iff_getElem?.1 hb
          rw [List.getElem?_take] at hj
          split at hj
          · rename_i hji
            obtain ⟨q, hq, hq32, hoq⟩ := row_get hr hj
            refine ⟨x, b, (outs_iff m x b).1 he, ?_⟩
            rw [hp, hq]
            simp only [Int.toNat_natCast, hop, hoq]
            omega
          · cases hj
        · exact ⟨x, x, (outs_iff m x x).1 he, Int.le_refl _⟩
      · rintro ⟨a, b, he, hle⟩
        obtain ⟨p, rfl⟩ : ∃ p : Nat, a = (p : Int) := ⟨a.toNat, by have := he.1; omega⟩
        obtain ⟨q, rfl⟩ : ∃ q : Nat, b = (q : Int) := ⟨b.toNat, by have := he.2.1; omega⟩
        have hp : p < 32 := by have := he.1; omega
        have hq : q < 32 := by have := he.2.1; omega
        simp only [Int.toNat_natCast] at hle
        have h0 := hR.lo p hp
        have h1 := hR.hi p hp
        have h2 := hR.lo q hq
        refine ⟨(o p).toNat, by rw [List.mem_range]; omega, ?_⟩
        have hx := row_at hr hp
        have hg : (row o).getD (o p).toNat 0 = (p : Int) := by rw [List.getD_eq_getElem?_getD, hx]; rfl
        unfold dnAt dnIn
        rw [hg, Bool.or_eq_true, List.any_eq_true]
        by_cases heq : o q = o p
        · right
          have : q = p := hR.inj q p hq hp heq
          subst this
          exact (outs_iff m _ _).2 he
        · left
          refine ⟨(q : Int), List.mem_iff_getElem?.2 ⟨(o q).toNat, ?_⟩, (outs_iff m _ _).2 he⟩
          rw [List.getElem?_take, if_pos (by omega)]
          exact row_at hr hq
    rw [Bool.eq_iff_iff, sorted_iff, Bool.not_eq_true']
    constructor
    · rintro ⟨_, h⟩
      cases hd : dn m (row o) 32 with
      | false => rfl
      | true => obtain ⟨a, b, he, hle⟩ := key.1 hd; have := h a b he; omega
    · intro hd
      refine ⟨hR, fun a b he => ?_⟩
      have : ¬ o b.toNat ≤ o a.toNat := fun hle => by rw [key.2 ⟨a, b, he, hle⟩] at hd; cases hd
      omega
end Wb
namespace Go.Proofs.YteclmkmemecckaaDoor
open Go.RowKit Wb
theorem upTo_all (m : M) : encM (upTo m 32) = encM m := encA_ext _ _ _ _ fun i hi => by simp [upTo, hi]
theorem arrRMat : ArrT 44 32 := ⟨.inl ⟨_, _, Tryd.underlying44⟩, by kernel_rfl⟩
theorem run_index_rmat (m : M) (k : Nat) (hk : k < 32) (w : World) : (Instr.index 44 (.agg (encM m)) (.int .i64 (k : Int))).run Tryd.prog w = .ok (.int .u64 (sv (m k))) w := by
  have h1 : (0 : Int) ≤ (k : Int) ∧ (k : Int) < 32 := by omega
  simp [Instr.index, asIntOf, part, run_underlying Tryd.underlying44, h1, hk, go_sem]
set_option maxHeartbeats 1000000 in
theorem theirs_any (m : M) (w : World) :
    Calls Tryd.prog 20 #[.agg (encM m)] w fun e w' => e = .returned (.agg (encM m)) ∧ Below w.heap.size w w' := by
  go_enter Tryd.func20, Tryd.ntmps20
  go_wp2_with (first | (with_reducible refine wpList_alloc_val zeroMat ?_) | ((with_reducible refine wpList_load_arr arrRMat ?_ ?_); go_simp; go_simp))
  rw [show (encM fun _ => 0#64) = encM (upTo m 0) by rw [upTo_zero]]
  go_loopw [7] (fun i wr => ∃ k : Nat, k ≤ 32 ∧ i = .int .i64 k ∧ wr = (((w.alloc (.cells (encM m) 44)).alloc (.cells (encM (upTo m 0)) 29)).alloc (.cells (encM (upTo m k)) 29))) (fun i _ => 32 - (intOf i).toNat)
  case atStart => exact ⟨0, Nat.zero_le _, rfl, rfl⟩
  case round =>
    obtain ⟨k, hk, rfl, rfl⟩ := hrel
    by_cases hlt : k < 32
    · have hs := Lib.hid (upTo_step m k)
      have hix := run_index_rmat m k hlt
      go_wp2
      go_roundw
      case rel => exact ⟨k + 1, by omega, by go_num, by rw [← hs.out]⟩
      case measure => simp [intOf]; omega
    · have hk32 : k = 32 := by omega
      subst hk32
      have hs : Hid (encM (upTo m 32) = encM m) := upTo_all m
      generalize upTo m 32 = m' at *
      generalize upTo m 0 = m0 at *
      go_wp2_with (first | ((with_reducible refine wpList_load_arr arrMat ?_ ?_); go_simp; go_simp) | ((with_reducible refine wpList_load_arr_g arrMat ?_ ?_ ?_); rfl; go_simp; go_simp) | ((with_reducible refine wpList_store_arr arrMat (vs := encM m') ?_ ?_ (encM_size _) (encM_all _) ?_); exact rfl; go_simp; go_simp))
      exact bodyPost_ret (res_c arrMat (cs := encM m') rfl _ _ rfl (by go_simp)) rfl ⟨by rw [hs.out], below3 w _ _ _⟩

set_option maxHeartbeats 4000000 in
set_option maxRecDepth 100000 in
theorem topoSorted_any (m : M) (o : O) (w : World) (hT : Tab w) :
    Calls Tryd.prog 6 #[.agg (encM m), .agg (encO o)] w fun e w' => e = .returned (.bool true) ∧ Below w.heap.size w w' := by
  have hT0 : Hid (Tab w) := hT
  clear hT
  go_enter Tryd.func6, Tryd.ntmps6
  go_wp2_with fail
  refine (alive_any _ ((hT0.out.alloc _).alloc _)).mono ?_
  rintro e w1 ⟨rfl, hb1⟩
  have hrM : row? w1 w.heap.size = some (encM m) := by rw [row?_below hb1 (by simp; omega)]; go_simp
  have hrO : row? w1 (w.heap.size + 1) = some (encO o) := by rw [row?_below hb1 (by simp)]; go_simp
  have hB1 : Hid (Below w.heap.size w w1) := (below2 w _ _).trans (hb1.mono (by simp; omega))
  have hT1 : Hid (Tab w1) := hT0.out.next hB1.out
  have hM := Lib.hid hrM
  have hO := Lib.hid hrO
  clear hb1 hrM hrO
  go_wp2
  refine wp_region_steps (St := Nat × Nat) [some 15, some 16, some 17, some 5, some 6, none, none] [[], [0], [], [], [], [3, 1, 1, 0, 1, 3, 4], [4, 2, 5, 0, 1, 2, 3, 4, 5]]
    (fun s i => match i with | 0 => .agg (encM m) | 1 => .agg (encM m) | 2 => .agg (encO o) | 3 => .pointer (some ⟨s.1, 0, none⟩) | 4 => .pointer (some ⟨s.2, 0, none⟩) | _ => undef)
    (fun d s w' => Below w1.heap.size w1 w' ∧ (d 3 = true → w1.heap.size ≤ s.1 ∧ row? w' s.1 = some (if d 5 then encM m else encM Z)) ∧ (d 4 = true → w1.heap.size ≤ s.2 ∧ row? w' s.2 = some (if d 6 then encO o else encO fun _ => 0)) ∧ (d 3 = true → d 4 = true → s.1 ≠ s.2))
    (0, 0) rfl (by kernel_rfl) (by decide) (by simp) (by decide) ⟨(Below.refl _ _).drew, by simp, by simp, by simp⟩ ?_ ?_
  · intro d s w' i hi hd hne hcl hC a hev hot hsz K hK
    obtain ⟨hb, hC3, hC4, hC34⟩ := hC
    have e2 : a.eval (.tmp 2) = .pointer (some ⟨w.heap.size, 0, none⟩) := hot 2 (by decide)
    have e3 : a.eval (.tmp 3) = .pointer (some ⟨w.heap.size + 1, 0, none⟩) := hot 3 (by decide)
    have hrM : row? w' w.heap.size = some (encM m) := (row?_below hb (row?_lt hM.out)).trans hM.out
    have hrO : row? w' (w.heap.size + 1) = some (encO o) := (row?_below hb (row?_lt hO.out)).trans hO.out
    have hd5 : d 3 = false → d 5 = false := fun h => by cases h5 : d 5 with | false => rfl | true => have := hcl 5 (by decide) h5 3 (by simp); rw [h] at this; cases this
    have hd6 : d 4 = false → d 6 = false := fun h => by cases h5 : d 6 with | false => rfl | true => have := hcl 6 (by decide) h5 4 (by simp); rw [h] at this; cases this
    match i, hi with
    | 0, _ => exact wpOp_load arrRMat rfl e2 hrM (encM_size _) (hK s w' (fun _ _ => rfl) ⟨hb, hC3, hC4, hC34⟩)
    | 1, _ =>
      refine wpOp_call rfl ⟨_, Tryd.func20, by kernel_rfl, by kernel_rfl⟩ ?_
      have e15 : a.eval (.tmp 15) = .agg (encM m) := hev 0 15 (hne 0 (by simp)) rfl
      simp only [List.map_toArray, List.map_cons, List.map_nil, e15]
      refine (theirs_any m w').mono ?_
      rintro e w2 ⟨rfl, hb2⟩
      refine ⟨_, rfl, hK s w2 (fun _ _ => rfl) ⟨hb.trans (hb2.mono hb.size), fun h => ?_, fun h => ?_, hC34⟩⟩
      · obtain ⟨h1, h2⟩ := hC3 h; exact ⟨h1, (row?_below hb2 (row?_lt h2)).trans h2⟩
      · obtain ⟨h1, h2⟩ := hC4 h; exact ⟨h1, (row?_below hb2 (row?_lt h2)).trans h2⟩
    | 2, _ => exact wpOp_load arrROrder rfl e3 hrO (encO_size _) (hK s w' (fun _ _ => rfl) ⟨hb, hC3, hC4, hC34⟩)
    | 3, _ =>
      refine wpOp_alloc_val zeroMat rfl (hK (w'.heap.size, s.2) _ (fun j hj => ?_) ⟨hb.alloc hb.size _, fun _ => ⟨hb.size, ?_⟩, fun h => ?_, fun _ h => ?_⟩)
      · match j with
        | 3 => rw [hd] at hj; cases hj
        | 0 | 1 | 2 | 4 | j + 5 => rfl
      · show row? _ _ = some (if d 5 = true then _ else _)
        rw [hd5 hd]
        exact row?_alloc_at _ _ _ rfl
      · obtain ⟨h1, h2⟩ := hC4 h; exact ⟨h1, (row?_alloc_past _ _ (row?_lt h2)).trans h2⟩
      · have := row?_lt (hC4 h).2; show w'.heap.size ≠ s.2; omega
    | 4, _ =>
      refine wpOp_alloc_val zeroOrder rfl (hK (s.1, w'.heap.size) _ (fun j hj => ?_) ⟨hb.alloc hb.size _, fun h => ?_, fun _ => ⟨hb.size, ?_⟩, fun h _ => ?_⟩)
      · match j with
        | 4 => rw [hd] at hj; cases hj
        | 0 | 1 | 2 | 3 | j + 5 => rfl
      · obtain ⟨h1, h2⟩ := hC3 h; exact ⟨h1, (row?_alloc_past _ _ (row?_lt h2)).trans h2⟩
      · show row? _ _ = some (if d 6 = true then _ else _)
        rw [hd6 hd]
        exact row?_alloc_at _ _ _ rfl
      · have := row?_lt (hC3 h).2; show s.1 ≠ w'.heap.size; omega
    | 5, _ =>
      have h3 := hne 3 (by simp)
      have h4 := hne 4 (by simp)
      have e5 : a.eval (.tmp 5) = .pointer (some ⟨s.1, 0, none⟩) := hev 3 5 h3 rfl
      have e16 : a.eval (.tmp 16) = .agg (encM m) := hev 1 16 (hne 1 (by simp)) rfl
      obtain ⟨hg, hr⟩ := hC3 h3
      have hne34 := hC34 h3 h4
      rw [hd] at hr
      refine wpOp_store arrMat rfl e5 e16 hr (encM_size _) (encM_size _) (encM_all _) (hK s _ (fun _ _ => rfl) ⟨below_setRow hb hg _, fun _ => ⟨hg, ?_⟩, fun _ => ?_, fun _ _ => hne34⟩)
      · exact row?_setRow_same _ _ _ hr
      · obtain ⟨h1, h2⟩ := hC4 h4; exact ⟨h1, (row?_setRow_other _ _ _ hne34.symm).trans h2⟩
    | 6, _ =>
      have h3 := hne 3 (by simp)
      have h4 := hne 4 (by simp)
      have e6 : a.eval (.tmp 6) = .pointer (some ⟨s.2, 0, none⟩) := hev 4 6 h4 rfl
      have e17 : a.eval (.tmp 17) = .agg (encO o) := hev 2 17 (hne 2 (by simp)) rfl
      obtain ⟨hg, hr⟩ := hC4 h4
      have hne34 := hC34 h3 h4
      rw [hd] at hr
      refine wpOp_store arrOrder rfl e6 e17 hr (encO_size _) (encO_size _) (encO_all _) (hK s _ (fun _ _ => rfl) ⟨below_setRow hb hg _, fun _ => ?_, fun _ => ⟨hg, ?_⟩, fun _ _ => hne34⟩)
      · obtain ⟨h1, h2⟩ := hC3 h3; exact ⟨h1, (row?_setRow_other _ _ _ hne34).trans h2⟩
      · exact row?_setRow_same _ _ _ hr
  · rintro d ⟨g5, g6⟩ w2 hall ⟨hb, hC3, hC4, hC34⟩
    obtain ⟨hg5, hr5⟩ := hC3 (hall 3 (by decide))
    obtain ⟨hg6, hr6⟩ := hC4 (hall 4 (by decide))
    rw [hall 5 (by decide)] at hr5
    rw [hall 6 (by decide)] at hr6
    have hB2 : Hid (Below w.heap.size w w2) := hB1.out.trans (hb.mono hB1.out.size)
    have hT2 : Hid (Tab w2) := hT1.out.next hb
    have h5l := row?_lt hr5
    have h6l := row?_lt hr6
    simp only [if_true] at hr5 hr6
    clear hC3 hC4 hC34 hb hg5 hg6 hB1 hT1 hM hO hall
    simp only [putL]
    go_simp
    go_wp2_with (first | ((with_reducible refine wpList_load_arr arrOrder ?_ ?_); go_simp; go_simp) | ((with_reducible refine wpList_load_arr_g arrOrder ?_ ?_ ?_); rfl; go_simp; go_simp))
    refine (row_any o _).mono ?_
    rintro e w3 ⟨v, rfl, hown, hb3⟩
    have hr5' := (row?_below hb3 h5l).trans hr5
    have hr6' := (row?_below hb3 h6l).trans hr6
    have hB3 : Hid (Below w.heap.size w w3) := hB2.out.trans (hb3.mono hB2.out.size)
    have hT3 : Hid (Tab w3) := hT2.out.next hb3
    have h5l3 := row?_lt hr5'
    have h6l3 := row?_lt hr6'
    have hR5 := Lib.hid hr5'
    have hR6 := Lib.hid hr6'
    have hLen := Lib.hid hown.len
    have hOwn := Lib.hid hown
    have hL32 : (row o).length ≤ 32 := by unfold row; split <;> simp [rowO]
    clear hr5 hr6 hr5' hr6' hb3 hB2 hT2 h5l h6l hown
    generalize hl : row o = l at *
    have hlen := hLen.out
    go_wp2
    clear hlen
    have hDn := Lib.hid (dn_step m l)
    go_loopw [8, 22] (fun dv i wr => ∃ (k : Nat) (r : Array Obj × Nat), k ≤ l.length ∧ i = .int .i64 k ∧ dv = .bool (dn m l k) ∧ wr = ext w3 r) (fun _ i _ => l.length - (intOf i).toNat)
    case atStart => exact ⟨0, _, Nat.zero_le _, rfl, rfl, self_is_ext _⟩
    case round =>
      obtain ⟨k, r, hk, rfl, rfl, rfl⟩ := hrel
      by_cases hlt : k < l.length
      · rcases hOwn.out.open with ⟨_, hnil⟩ | ⟨g, cap, rfl, _, hg3, hcap, hcapm, hcell⟩
        · exfalso; rw [hnil] at hlt; simp at hlt
        obtain ⟨x, hx⟩ := at_lt hlt
        have hcx := hcell k x hx
        have hcell' := Lib.hid hcell
        have hX := Lib.hid hx
        have hGet : Hid (l.getD k 0 = x) := by show _ = _; rw [List.getD_eq_getElem?_getD, hx]; rfl
        clear hx hcell
        generalize hd0 : dn m l k = d0 at *
        have hD0 := Lib.hid hd0
        clear hd0
        go_wp2
        go_loopw [8, 31] (fun dv j wr => ∃ (q : Nat) (r : Array Obj × Nat), q ≤ k ∧ j = .int .i64 q ∧ dv = .bool (d0 || dnIn m x (l.take q)) ∧ wr = ext w3 r) (fun _ j _ => k - (intOf j).toNat)
        case atStart => exact ⟨0, _, Nat.zero_le _, rfl, by simp [dnIn], rfl⟩
        case round =>
          obtain ⟨q, r', hq, rfl, rfl, rfl⟩ := hrel
          by_cases hqk : q < k
          · obtain ⟨y, hy⟩ := at_lt (l := l) (k := q) (by omega)
            have hcy := hcell'.out q y hy
            have hs := Lib.hid (dnIn_step m x hy)
            have hr5 : row? (ext w3 r') g5 = some (encM m) := by rw [ext_row? _ _ _ h5l3]; exact hR5.out
            clear hy
            generalize hc : (d0 || dnIn m x (l.take q)) = cur at *
            have hC := Lib.hid hc
            clear hc
            cases cur with
            | true =>
              go_wp2
              go_roundw
              case rel => exact ⟨q + 1, _, by omega, by go_num, by rw [hs.out, ← Bool.or_assoc, hC.out]; rfl, rfl⟩
              case measure => simp [intOf]; omega
            | false =>
              go_wp2_with (first | ((with_reducible refine wpList_load_arr_g arrMat ?_ ?_ ?_); rfl; go_simp; go_simp) | (go_at_call 21; refine (mhas_any m x y _).mono ?_; rintro e w4 ⟨rfl, hb4⟩; obtain ⟨r4, rfl⟩ := hb4.ext))
              exact ⟨⟨q + 1, _, by omega, by go_num, by rw [hs.out, ← Bool.or_assoc, hC.out]; rfl, rfl⟩, by simp [intOf]; omega⟩
          · have hqk' : q = k := by omega
            subst hqk'
            have hr5 : row? (ext w3 r') g5 = some (encM m) := by rw [ext_row? _ _ _ h5l3]; exact hR5.out
            have hAt : Hid (dn m l (q + 1) = (d0 || dnIn m x (l.take q) || has (outs m x) x)) := by
              show _ = _; rw [hDn.out q, hD0.out]; unfold dnAt; rw [hGet.out, Bool.or_assoc]
            generalize hc : (d0 || dnIn m x (l.take q)) = cur at *
            have hC := Lib.hid hc
            clear hc
            cases cur with
            | true =>
              go_wp2
              go_roundw
              case rel => exact ⟨q + 1, _, by omega, by go_num, by rw [hAt.out]; rfl, rfl⟩
              case measure => simp [intOf]; omega
            | false =>
              go_wp2_with (first | ((with_reducible refine wpList_load_arr_g arrMat ?_ ?_ ?_); rfl; go_simp; go_simp) | (go_at_call 21; refine (mhas_any m x x _).mono ?_; rintro e w4 ⟨rfl, hb4⟩; obtain ⟨r4, rfl⟩ := hb4.ext))
              exact ⟨⟨q + 1, _, by omega, by go_num, by rw [hAt.out]; rfl, rfl⟩, by simp [intOf]; omega⟩
      · have hkl : k = l.length := by omega
        subst hkl
        have hr5 : row? (ext w3 r) g5 = some (encM m) := by rw [ext_row? _ _ _ h5l3]; exact hR5.out
        have hr6 : row? (ext w3 r) g6 = some (encO o) := by rw [ext_row? _ _ _ h6l3]; exact hR6.out
        have hT4 : Hid (Tab (ext w3 r)) := hT3.out.ext r
        have hB4 : Hid (Below w.heap.size w (ext w3 r)) := hB3.out.extd hB3.out.size r
        obtain ⟨w4, hw4⟩ : ∃ w4, w4 = ext w3 r := ⟨_, rfl⟩
        rw [← hw4] at hr5 hr6 hT4 hB4 ⊢
        clear hw4
        have h5l4 := row?_lt hr5
        have h6l4 := row?_lt hr6
        have hl5 : Hid (∀ w', (∃ p : Grew, w' = ext w4 (p.os, p.n)) → row? w' g5 = some (encM m)) := by
          rintro w' ⟨p, rfl⟩; rw [ext_row? _ _ _ h5l4]; exact hr5
        have hl6 : Hid (∀ w', (∃ p : Grew, w' = ext w4 (p.os, p.n)) → row? w' g6 = some (encO o)) := by
          rintro w' ⟨p, rfl⟩; rw [ext_row? _ _ _ h6l4]; exact hr6
        have hLaw : Hid (sorted m o = (right o && !dn m l l.length)) := by show _ = _; rw [← hl]; exact sorted_dn m o
        clear hr5 hr6 hk hlt
        generalize hdn : dn m l l.length = dq at *
        have hSa : Hid (∀ w, Tab w → Calls Tryd.prog 22 #[.agg (encM m), .agg (encO o)] w fun e w' => e = .returned (.bool (right o && !dq)) ∧ Below w.heap.size w w') := by
          intro w h; have := sorted_any m o w h; rw [hLaw.out] at this; exact this
        have hRi : Hid (∀ w, Calls Tryd.prog 18 #[.agg (encO o)] w fun e w' => e = .returned (.bool (right o)) ∧ Below w.heap.size w w') := fun w => right_any o w
        clear hLaw hdn hl hDn
        generalize right o = ro at *
        go_wp2
        cases ro <;> cases dq
        all_goals
          refine wp_region_grew (by kernel_rfl) (by kernel_rfl) ?_
          with_reducible refine wpQuiet_load_arr arrMat ?_ ?_ hl5.out (encM_size _) ?_
          rfl
          rfl
          with_reducible refine wpQuiet_load_arr arrOrder ?_ ?_ hl6.out (encO_size _) ?_
          rfl
          rfl
          quiet_step ((go_at_call 22; exact Calls.grew_of (hSa.out _ (hT4.out.ext _))))
          with_reducible refine wpQuiet_load_arr arrOrder ?_ ?_ hl6.out (encO_size _) ?_
          rfl
          rfl
          quiet_step ((go_at_call 18; exact Calls.grew_of (hRi.out _)))
          iterate 6 (quiet_step (fail))
          refine wpQuiet_nil ?_
          rintro _ ⟨p, rfl⟩
          go_wp2
          go_ret
          exact ⟨rfl, hB4.out.extd hB4.out.size _⟩
end Go.Proofs.YteclmkmemecckaaDoor
