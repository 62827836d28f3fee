/- The walk of topo's 'near', by what its two function values tell. -/
import Derived.Test.YteclmkmemecckaaDoorWtopo
namespace Go.Proofs.YteclmkmemecckaaDoor
open Go.RowKit Wb

/-- A function value that tells, of each node, whether it may. -/
def Mays (f : Nat) (cap : Array Value) (p : Int → Bool) (Inv : World → Prop) : Prop :=
  (∀ (i : Int) (w : World), 0 ≤ i → i < 32 → Inv w → Calls Tryd.prog f (#[.int .i64 i] ++ cap) w fun e w' => e = .returned (.bool (p i)) ∧ Below w.heap.size w w') ∧
  (∀ (args : Array Value) (w : World), (callFunc f args).run Tryd.prog w = .ok (.enter f args) w)

def newOf (F : Int → S) (p : Int → Bool) (had : S) (i : Int) : List Int := (items (F i &&& ~~~had)).filter p
theorem near_step {F : Int → S} {p : Int → Bool} {n : Nat} {had R : S} {st : List Int} {i : Int} (h1 : nearL F p n had (st ++ [i]) = R) (h2 : (64 - cnt had) + (st ++ [i]).length < n) (h3 : n ≤ 200) :
    ∃ n', nearL F p n' ((newOf F p had i).foldl wth had) (st ++ newOf F p had i) = R ∧ (64 - cnt ((newOf F p had i).foldl wth had)) + (st ++ newOf F p had i).length < n' ∧ n' ≤ 200 ∧
      (64 - cnt ((newOf F p had i).foldl wth had)) + (st ++ newOf F p had i).length < (64 - cnt had) + (st ++ [i]).length := by
  obtain ⟨n, rfl⟩ : ∃ n', n = n' + 1 := ⟨n - 1, by omega⟩
  have hc := cnt_foldl (l := newOf F p had i) (s := had) ((rising_nodup (items_sorted _)).filter _) (fun k hk => by
    unfold newOf at hk
    rw [List.mem_filter, mem_items, has_andNot] at hk
    simp only [Bool.and_eq_true, Bool.not_eq_true'] at hk
    exact ⟨has_range hk.1.1, hk.1.2⟩)
  have hle := cnt_le ((newOf F p had i).foldl wth had)
  simp only [List.length_append, List.length_singleton] at h2 ⊢
  refine ⟨n, ?_, by omega, by omega, by omega⟩
  rw [← h1, nearL]
  simp only [List.getLast?_append, List.getLast?_singleton, Option.some_or, List.dropLast_concat]
  rfl
def NearJ (f g : Nat) (cf cg : Array Value) (F : Int → S) (p : Int → Bool) (w0 : World) (R : S) (a0 : Value) (a' : Act) (w' : World) : Prop :=
  ∃ (n : Nat) (had : S) (v : Value) (st : List Int) (u3 u4 u5 u9 u10 u11 u12 u13 u14 u15 u16 u17 u18 u19 u20 u21 u22 u23 u24 u25 u26 u27 u28 u29 u30 u31 u32 u33 u34 u35 u36 u37 u38 u39 u40 u41 u42 u43 u44 u45 u46 u47 u48 u49 u50 u51 u52 u53 : Value),
    a' = { tmps := #[a0, .func (.func f) #[] cf, .func (.func g) #[] cg, u3, u4, u5, .int .u64 0, .int .u64 (sv had), v, u9, u10, u11, u12, u13, u14, u15, u16, u17, u18, u19, u20, u21, u22, u23, u24, u25, u26, u27, u28, u29, u30, u31, u32, u33, u34, u35, u36, u37, u38, u39, u40, u41, u42, u43, u44, u45, u46, u47, u48, u49, u50, u51, u52, u53], defers := [] } ∧
    Own w' w0.heap.size v st ∧ Below w0.heap.size w0 w' ∧ nearL F p n had st = R ∧ (64 - cnt had) + st.length < n ∧ n ≤ 200
set_option maxHeartbeats 4000000 in
set_option maxRecDepth 100000 in
theorem near_any (f g : Nat) (cf cg : Array Value) (F : Int → S) (p : Int → Bool) (Inv : World → Prop) (hN : Nexts f cf F Inv) (hM : Mays g cg p Inv) (hF : ∀ i k, has (F i) k = true → 0 ≤ k ∧ k < 32)
    (a : Int) (w : World) (hT : Tab w) (hI : Inv w) :
    Calls Tryd.prog 42 #[.int .i64 a, .func (.func f) #[] cf, .func (.func g) #[] cg] w fun e w' => e = .returned (.int .u64 (sv (near a F p))) ∧ Below w.heap.size w w' := by
  have hcall := hN.2.2
  have hcallg := hM.2
  have HC := Lib.hid hN.1
  have HM := Lib.hid hM.1
  have HF := Lib.hid hF
  have HI := Lib.hid hN.2.1
  have hI0 : Hid (Inv w) := hI
  have hT0 : Hid (Tab w) := hT
  clear hI hT hN hM hF
  have hOf : Hid (∀ j x, [a][j]? = some x → (w.alloc (.cells #[.int .i64 a] 3)).cell? ⟨w.heap.size, 0 + j, none⟩ = some (.int .i64 x)) := by
    intro j x h
    cases j with
    | zero => simp at h; subst h; simp
    | succ j => simp at h
  have hOwn0 : Hid (Own ((w.alloc (.cells #[.int .i64 a] 3)).alloc (.cells #[.int .i64 a] 3)) w.heap.size (.slice (some ⟨w.heap.size + 1, 0, none⟩) 1 1) [a]) :=
    ⟨rfl, .inr ⟨w.heap.size + 1, 1, #[.int .i64 a], rfl, by omega, heap_alloc_at' _ _ (by simp), by simp, by unfold maxLen; omega, rfl, rfl⟩⟩
  go_enter Tryd.func42, Tryd.ntmps42
  go_wp2_with fail
  refine wp_scope_loop2 0 (NearJ f g cf cg F p w (near a F p) (.int .i64 a)) (fun a' _ => 64 - cnt (BitVec.ofInt 64 (intOf (a'.tmps.getD 7 undef))) + lenOf (a'.tmps.getD 8 undef)) rfl rfl ?_ ?_
  · go_wp2_with (first | (go_at_call 19; refine (of_any _ _ _ _ [a] _ rfl (by simp) hOf.out).mono ?_; rintro e w' ⟨rfl, rfl⟩))
    refine ⟨200, setOf [a], _, [a], _, _, _, _, _, _, _, _, _, _, _, _, _, _, _, _, _, _, _, _, _, _, _, _, _, _, _, _, _, _, _, _, _, _, _, _, _, _, _, _, _, _, _, _, _, _, _, _, rfl, hOwn0.out, below2 _ _ _, rfl, by simp; omega, by omega⟩
  · rintro a' wr ⟨n, had, v, st, u3, u4, u5, u9, u10, u11, u12, u13, u14, u15, u16, u17, u18, u19, u20, u21, u22, u23, u24, u25, u26, u27, u28, u29, u30, u31, u32, u33, u34, u35, u36, u37, u38, u39, u40, u41, u42, u43, u44, u45, u46, u47, u48, u49, u50, u51, u52, u53, rfl, hown, hb, h1, h2, h3⟩
    have hIr : Hid (Inv wr) := HI.out _ _ hI0.out hb
    have hTr : Hid (Tab wr) := hT0.out.next hb
    have hlen := hown.len
    rcases List.eq_nil_or_concat st with rfl | ⟨st', i, hcon⟩
    · have hfin : Hid (had = near a F p) := by
        show _ = _
        obtain ⟨n, rfl⟩ : ∃ n', n = n' + 1 := ⟨n - 1, by omega⟩
        rw [← h1, nearL]; rfl
      clear h1 h2 h3
      go_wp2
      simp only [Exit.jump]
      go_ret
      exact ⟨by rw [← hfin.out]; rfl, hb⟩
    · rw [List.concat_eq_append] at hcon
      subst hcon
      have hs := Lib.hid (near_step h1 h2 h3)
      have hst : st'.length ≤ 198 := by simp at h2; omega
      clear h1 h2 h3
      rcases hown.open with ⟨_, hnil⟩ | ⟨gs, cap, rfl, hgs1, hgs2, hcap, hcap2, hcell⟩
      · simp at hnil
      have hci := hcell st'.length i (by simp)
      have hpop := Lib.hid hown.pop
      simp only [List.length_append, List.length_singleton] at hcap hlen ⊢
      have hbr := Lib.hid hb
      clear hcell hown hlen hb
      go_wp2_with (first | (go_at_call 32; refine (items_any _ _ (hTr.out.next hb2)).mono ?_; rintro e w3 ⟨vl, rfl, hownl, hb3⟩; have hlenl := hownl.len) | ((with_reducible refine (HC.out _ _ hIr.out).mono ?_); rintro e w2 ⟨rfl, hb2⟩))
      have hsz2 := hb2.size
      have hsz3 := hb3.size
      have hszr := hbr.out.size
      have hB3 : Hid (Below w.heap.size w w3) := (hbr.out.trans (hb2.mono hszr)).trans (hb3.mono (by omega))
      have hSt : Hid (Own w3 w.heap.size (.slice (some ⟨gs, 0, none⟩) st'.length cap) st') := ((hpop.out.next hb2).next hb3)
      have hnodes : Hid (∀ x ∈ items (F i &&& ~~~had), 0 ≤ x ∧ x < 32) := by
        intro x hx
        rw [mem_items, has_andNot] at hx
        simp only [Bool.and_eq_true] at hx
        exact HF.out i x hx.1
      have hLn := items_length (F i &&& ~~~had)
      have hne0 : Hid (vl.ownBlock = none ∨ vl.ownBlock ≠ some gs) := by
        show _ ∨ _
        cases hv : vl.ownBlock with
        | none => exact .inl rfl
        | some k => refine .inr fun e => ?_; injection e with e; subst e; have := (hownl.lt _ hv).1; omega
      have hownL := Lib.hid hownl
      have hnew : Hid (newOf F p had i = (items (F i &&& ~~~had)).filter p) := rfl
      clear hownl hb2 hb3 hpop hci
      generalize hl : items (F i &&& ~~~had) = l at *
      clear hl
      generalize hst0 : Value.slice (some ⟨gs, 0, none⟩) st'.length cap = vs at *
      have hlens := hSt.out.len
      have hvs : Hid (vs.ownBlock = some gs) := by rw [← hst0]; exact rfl
      clear hst0
      go_loopw [7, 8, 39] (fun hv sv' j wr2 => ∃ (q : Nat), q ≤ l.length ∧ j = .int .i64 q ∧ hv = .int .u64 (sv (((l.take q).filter p).foldl wth had)) ∧ Own wr2 w.heap.size sv' (st' ++ (l.take q).filter p) ∧ Own wr2 w.heap.size vl l ∧ (vl.ownBlock = none ∨ sv'.ownBlock = none ∨ vl.ownBlock ≠ sv'.ownBlock) ∧ Below w.heap.size w wr2) (fun _ _ j _ => l.length - (intOf j).toNat)
      case atStart => exact ⟨0, Nat.zero_le _, rfl, by simp, by simpa using hSt.out, hownL.out.base (by omega), by rcases hne0.out with h | h; exact .inl h; exact .inr (.inr (by rw [hvs.out]; exact h)), hB3.out⟩
      case round =>
        obtain ⟨q, hq, rfl, rfl, ho1, ho2, hne, hb4⟩ := hrel
        have hIq : Hid (Inv wr) := HI.out _ _ hI0.out hb4
        have hsz4 := hb4.size
        by_cases hql : q < l.length
        · obtain ⟨x, hx⟩ := at_lt hql
          have hx32 := hnodes.out x (List.mem_of_getElem? hx)
          rcases ho2.open with ⟨_, hnil⟩ | ⟨gl, capl, hvl, hgl1, hgl2, _, _, hcell⟩
          · exfalso; rw [hnil] at hql; simp at hql
          · have hcx := hcell q _ hx
            have htk : Hid (l.take (q + 1) = l.take q ++ [x]) := take_snoc hx
            have ho2' := Lib.hid ho2
            subst hvl
            have hlq : ((l.take q).filter p).length ≤ 64 := by
              have h1 := List.length_filter_le p (l.take q)
              have h2 := List.length_take_le q l
              omega
            have hap : (st' ++ (l.take q).filter p).length + 1 ≤ 1000000 := by rw [List.length_append]; omega
            clear hcell hx ho2 hlenl
            cases hpx : p x with
            | true =>
              have hfl : Hid ((l.take (q + 1)).filter p = (l.take q).filter p ++ [x]) := by show _ = _; rw [htk.out, List.filter_append]; simp [hpx]
              go_wp2_with (first | (go_at_call 51; refine (with_any _ _ _).mono ?_; rintro e w' ⟨rfl, rfl⟩) | ((with_reducible refine (HM.out _ _ hx32.1 hx32.2 hIq.out).mono ?_); rintro e w5 ⟨rfl, hb5⟩) | (at_builtin; refine wpList_append_int rfl _ _ rfl w.heap.size u8 (st' ++ (l.take q).filter p) rfl ((ho1.next hb5).alloc _) ⟨w5.heap.size, 0, none⟩ 1 1 [x] rfl rfl (cell_one_int _ _) hap (by have := hb5.size; simp; omega) ?_; intro v' w6 hown6 hg6 hf6))
              have hsz5 := hb5.size
              have hlt1 : gl < w5.heap.size := by omega
              have hglo := ho2'.out
              go_roundw
              case rel =>
                refine ⟨q + 1, by omega, by go_num, by rw [hfl.out, List.foldl_append]; rfl, ?_, ?_, ?_, ?_⟩
                · rw [hfl.out, ← List.append_assoc]; exact hown6
                · refine ((hglo.next hb5).alloc _).kept hg6 ?_
                  rcases hne with h | h | h
                  · exact .inl h
                  · exact .inr (by rw [h]; simp [Value.ownBlock])
                  · exact .inr h
                · rcases hf6 with h | ⟨k, hk, hk2⟩
                  · rw [h]; exact hne
                  · refine .inr (.inr ?_)
                    rw [hk]
                    simp only [Value.ownBlock, ne_eq, Option.some.injEq]
                    simp at hk2
                    omega
                · exact ((hb4.trans (hb5.mono hsz4)).alloc (by omega) _).grown hg6 (by simp; omega) (fun k hk => (ho1.lt k hk).1)
              case measure => simp [intOf]; omega
            | false =>
              have hfl : Hid ((l.take (q + 1)).filter p = (l.take q).filter p) := by show _ = _; rw [htk.out, List.filter_append]; simp [hpx]
              go_wp2_with (first | ((with_reducible refine (HM.out _ _ hx32.1 hx32.2 hIq.out).mono ?_); rintro e w5 ⟨rfl, hb5⟩))
              have hglo := ho2'.out
              go_roundw
              case rel =>
                refine ⟨q + 1, by omega, by go_num, by rw [hfl.out], by rw [hfl.out]; exact ho1.next hb5, hglo.next hb5, hne, hb4.trans (hb5.mono hsz4)⟩
              case measure => simp [intOf]; omega
        · have hql' : Hid (l.take q = l) := List.take_of_length_le (by omega)
          have hl8 := ho1.lenOf
          go_wp2
          go_step3
          rw [hql'.out, ← hnew.out]
          rw [hql'.out, ← hnew.out] at ho1 hl8
          obtain ⟨n', g1, g2, g3, g4⟩ := hs.out
          refine ⟨rfl, ⟨n', _, _, _, _, _, _, _, _, _, _, _, _, _, _, _, _, _, _, _, _, _, _, _, _, _, _, _, _, _, _, _, _, _, _, _, _, _, _, _, _, _, _, _, _, _, _, _, _, _, _, _, rfl, ho1, hb4, g1, g2, g3⟩, ?_⟩
          show 64 - cnt (BitVec.ofInt 64 (sv _)) + lenOf u8 < 64 - cnt (BitVec.ofInt 64 (sv _)) + (st'.length + 1)
          rw [ofInt_sv, ofInt_sv, hl8]
          simpa using g4
end Go.Proofs.YteclmkmemecckaaDoor
