/- PoolNumbers: each that begins has the next number, and the least slot that is free. For every input; the arguments read as before. The listed table is the library's. -/
import Derived.Test.YteclmkmemecckaaDoorWnumbers
import Derived.Test.YteclmkmemecckaaDoorRowA
namespace Go.Proofs.YteclmkmemecckaaDoor
open Go.ChangeShapes Go.WideShapes Go.ChangeAt Go.WideElems Go.RowKit Go.Deep Wb

set_option maxRecDepth 100000 in
theorem poolNumbers_lifted (os : Os) (started : os.Started) (H : Type) (enc : TypeId × Value → H) :
    ReturnsInHanded {} Tryd.checked os 10 .any (fun w args => (Rows.poolNumbersSpec.pre enc Tryd.prog Tryd.f10 [] false w args ∧ laidMetH Tryd.prog theTab w) ∧ sizedMet enc Tryd.prog Tryd.f10 (OpenSpec.ofChange Rows.poolNumbersSpec) false w args)
      (Rows.poolNumbersSpec.post enc Tryd.prog Tryd.f10 false true false false) := by
  refine law_lifted (enc := enc) os started Rows.poolNumbersSpec 10 Tryd.f10 Tryd.func10 (by kernel_rfl) ?_ rfl rfl ?_
    (ChangeSpec.witness_shaped (enc := enc) (C := Tryd.checked) (os := os) (X := fun w _ => laidMetH Tryd.prog theTab w) false (World.doorLaid Tryd.prog 400 os) #[.int .u8 0, .slice none 0 0] 8 rfl (World.shaped_of_RefB (by kernel_rfl) (by kernel_rfl)) (by kernel_rfl) (by kernel_rfl) (by kernel_rfl) (door_met os _)) ?_
  · rw [Tryd.params10]
    intro t ht
    simp only [List.mem_cons, List.not_mem_nil, or_false] at ht
    rcases ht with rfl | rfl <;> exact ⟨by kernel_rfl, of_decide_eq_true (by kernel_rfl)⟩
  · intro ds hd
    rw [Tryd.params10] at hd
    match ds, hd with
    | [d0, d1], _ => rfl
  · intro W base args ds p hval hA hlt hT
    rw [Tryd.params10] at hA hval
    obtain ⟨v0, v1, d0, d1, p0, p1, rfl, rfl, rfl, h0, h1⟩ := trodAll_two hA
    obtain ⟨s, rfl, _, _, hw⟩ := open_int Tryd.underlying5 (hval 0 _ v0 rfl rfl) h0
    obtain ⟨A, n, cap, l, rfl, hn, hm, hE⟩ := open_acts (hval 1 _ v1 rfl rfl) h1
    exact poolNumbers_any s A n cap l W hT (u8_range hw) hn hm hE

theorem poolNumbers_holds : Rows.PoolNumbersSaid :=
  OpenClaim.holds_of_wide 10 Tryd.f10 rfl rfl rfl rfl rfl rfl rfl ⟨rfl, rfl, rfl, rfl, rfl⟩ rfl rfl rfl rfl rfl (by kernel_rfl) Tryd.func10 (by kernel_rfl)
    (of_decide_eq_true (by kernel_rfl)) (by unfold Func.isWrapper; rw [if_neg (of_decide_eq_false (by kernel_rfl))]; exact ⟨rfl, rfl⟩)
    (fun os started H enc _ => poolNumbers_lifted os started H enc)

set_option maxRecDepth 100000 in
theorem poolNumbers_card : Rows.PoolNumbersCardSaid :=
  Claim7.holds_tied_plain_at .later [] [.data] true (true, Rows.poolNumbersCard.stood.harness.2) false
    poolNumbers_holds (fun _ h => by cases h) (by kernel_rfl) (fun _ h => by cases h) poolNumbers_row_tie rfl ⟨rfl, rfl⟩ (by kernel_rfl) rfl
    (fun f fn hf hfn => by
      obtain rfl : f = 10 := Option.some.inj ((show Tryd.prog.funcNamed "warpbeam/warpbeamlaw05.PoolNumbers" = some 10 by kernel_rfl).symm.trans hf) |>.symm
      obtain rfl : fn = Tryd.f10 := (Option.some.inj (Tryd.func10.symm.trans hfn)).symm
      exact ⟨by kernel_rfl, fun j t ht => by
        rw [Tryd.params10] at ht
        have h := List.mem_of_getElem? (show ([5, 52] : List Nat)[j]? = some t by simpa using ht)
        simp only [List.mem_cons, List.not_mem_nil, or_false] at h
        rcases h with rfl | rfl <;> exact (show Tryd.prog.wantsStandIn _ = false by kernel_rfl)⟩)
    (by kernel_rfl)
#print axioms poolNumbers_card
end Go.Proofs.YteclmkmemecckaaDoor
