/- The walk of alive, at the head of each law of the pool. -/
import Derived.Test.YteclmkmemecckaaDoorWdoes
namespace Wb
theorem pal1 : ((Pl.new 2).begin).2 = (0, 0) := by decide +kernel
theorem pal2 : ((Pl.new 2).begin.1.begin).2 = (1, 0) := by decide +kernel
theorem pal3 : ((Pl.new 2).begin.1.begin.1.begin).2.2 = 4 := by decide +kernel
theorem pal4 : ((Pl.new 2).begin.1.begin.1.edge 1 0).2 = 0 := by decide +kernel
theorem pal5 : (((Pl.new 2).begin.1.begin.1.edge 1 0).1.edge 0 1).2 = 5 := by decide +kernel
theorem pal6 : (((Pl.new 2).begin.1.begin.1.edge 1 0).1.end 1).2 = 0 := by decide +kernel
theorem pal7 : (((Pl.new 2).begin.1.begin.1.edge 1 0).1.end 1).1.collects.2 = [2] := by decide +kernel
theorem pal8 : (((Pl.new 2).begin.1.begin.1.edge 1 0).1.end 1).1.collects.1.live = 1#64 ∧ (((Pl.new 2).begin.1.begin.1.edge 1 0).1.end 1).1.collects.1.over = 0#64 ∧ (((Pl.new 2).begin.1.begin.1.edge 1 0).1.end 1).1.collects.1.count = 2 := by decide +kernel
theorem pal9 : (Pl.new 2).count = 0 ∧ (Pl.new 2).begin.1.count = 1 ∧ (Pl.new 2).begin.1.begin.1.count = 2 := by decide +kernel
theorem palAll : ∃ p1 p2 p3 p4 p5 p6 : Pl, ∃ q : Pl, ∃ x : Int, ∃ r : Pl, Pl.new 2 = p1 ∧ p1.begin = (p2, 0, 0) ∧ p2.begin = (p3, 1, 0) ∧ p3.begin = (q, x, 4) ∧ p3.edge 1 0 = (p4, 0) ∧ p4.edge 0 1 = (r, 5) ∧ p4.end 1 = (p5, 0) ∧ p5.collects = (p6, [2]) ∧
    p1.count = 0 ∧ p2.count = 1 ∧ p3.count = 2 ∧ p6.live = 1#64 ∧ p6.over = 0#64 ∧ p6.count = 2 :=
  ⟨_, _, _, _, _, _, _, _, _, rfl, Prod.ext rfl pal1, Prod.ext rfl pal2, Prod.ext rfl (Prod.ext rfl pal3), Prod.ext rfl pal4, Prod.ext rfl pal5, Prod.ext rfl pal6, Prod.ext rfl pal7, pal9.1, pal9.2.1, pal9.2.2, pal8.1, pal8.2.1, pal8.2.2⟩
end Wb
namespace Go.Proofs.YteclmkmemecckaaDoor
open Go.RowKit Wb
structure AL (w0 w : World) (g : Nat) (p : Pl) : Prop where
  row : row? w g = some (encP p)
  below : Below w0.heap.size w0 w
  base : w0.heap.size ≤ g
theorem AL.next {w0 w w' : World} {g : Nat} {p : Pl} (h : AL w0 w g p) (hb : Below w.heap.size w w') : AL w0 w' g p :=
  ⟨(row?_below hb (row?_lt h.row)).trans h.row, h.below.trans (hb.mono h.below.size), h.base⟩
theorem AL.put {w0 w : World} {g : Nat} {p q : Pl} (h : AL w0 w g p) : AL w0 (w.setRow g (encP q)) g q :=
  ⟨row?_setRow_same _ _ _ h.row, below_setRow h.below h.base _, h.base⟩

set_option maxHeartbeats 8000000 in
set_option maxRecDepth 100000 in
theorem alive5_any (w : World) (hT : Tab w) :
    Calls Tryd.prog 25 #[] w fun e w' => e = .returned (.bool true) ∧ Below w.heap.size w w' := by
  have hT0 := Lib.hid hT
  clear hT
  obtain ⟨p1, p2, p3, p4, p5, p6, q, x, r, hp1, hp2, hp3, hp3', hp4, hp4', hp5, hp6, hc1, hc2, hc3, hlive, hover, hcount⟩ := palAll
  have h1 := Lib.hid hp1
  have h2 := Lib.hid hp2
  have h3 := Lib.hid hp3
  have h3' := Lib.hid hp3'
  have h4 := Lib.hid hp4
  have h4' := Lib.hid hp4'
  have h5 := Lib.hid hp5
  have h6 := Lib.hid hp6
  have hl6 := Lib.hid hlive
  have ho6 := Lib.hid hover
  have hn6 := Lib.hid hcount
  have b1 := Lib.hid hc1
  have b2 := Lib.hid hc2
  have b3 := Lib.hid hc3
  clear hp1 hp2 hp3 hp3' hp4 hp4' hp5 hp6 hlive hover hcount hc1 hc2 hc3
  go_enter Tryd.func25, Tryd.ntmps25
  go_wp2_with (first | (go_at_call 26; refine (poolnew_any 2 w).mono ?_; rintro e w1 ⟨rfl, hb1⟩; rw [if_pos (by decide), decide_eq_true (by decide : (1:Int) ≤ 2 ∧ (2:Int) ≤ 32), h1.out]) | (with_reducible refine wpList_alloc_val zeroPool ?_) | ((with_reducible refine wpList_load_arr arrPool ?_ ?_); go_simp; go_simp) | ((with_reducible refine wpList_store_arr arrPool (vs := encP p1) ?_ ?_ (encP_size _) (encP_all _) ?_); exact rfl; go_simp; go_simp))
  obtain ⟨g, hg⟩ : ∃ g, g = w1.heap.size := ⟨_, rfl⟩
  obtain ⟨v1, hV⟩ : ∃ v1, v1 = w1.alloc (Obj.cells (encP p1) 54) := ⟨_, rfl⟩
  rw [← hV]
  have hA1 : AL w v1 g p1 := by
    rw [hV, hg]
    exact ⟨by go_simp, hb1.alloc hb1.size _, hb1.size⟩
  have hG : Hid (w.heap.size ≤ g) := hA1.base
  clear hV hb1
  rw [← hg]
  clear hg
  refine (begin_any p1 _ (hT0.out.next hA1.below) (by rw [b1.out]; decide) (by rw [b1.out]; decide)).mono ?_
  rintro e u1 ⟨rfl, hbu⟩
  have hB1 := hA1.next hbu
  have k1 := hB1.row
  clear hA1 hbu
  rw [h2.out]
  go_wp2_with (first | (with_reducible refine wpList_alloc_val zeroPool ?_) | ((with_reducible refine wpList_load_arr arrPool ?_ ?_); go_simp; go_simp) | ((with_reducible refine wpList_store_arr arrPool (vs := encP p2) ?_ ?_ (encP_size _) (encP_all _) ?_); exact rfl; go_simp; go_simp))
  obtain ⟨v2, hV⟩ : ∃ v2, v2 = u1.setRow g (encP p2) := ⟨_, rfl⟩
  rw [← hV]
  have hA2 : AL w v2 g p2 := by rw [hV]; exact hB1.put
  clear hV hB1 k1
  refine (begin_any p2 _ (hT0.out.next hA2.below) (by rw [b2.out]; decide) (by rw [b2.out]; decide)).mono ?_
  rintro e u2 ⟨rfl, hbu⟩
  have hB2 := hA2.next hbu
  have k2 := hB2.row
  clear hA2 hbu
  rw [h3.out]
  go_wp2_with (first | (with_reducible refine wpList_alloc_val zeroPool ?_) | ((with_reducible refine wpList_load_arr arrPool ?_ ?_); go_simp; go_simp) | ((with_reducible refine wpList_store_arr arrPool (vs := encP p3) ?_ ?_ (encP_size _) (encP_all _) ?_); exact rfl; go_simp; go_simp))
  obtain ⟨v3, hV⟩ : ∃ v3, v3 = u2.setRow g (encP p3) := ⟨_, rfl⟩
  rw [← hV]
  have hA3 : AL w v3 g p3 := by rw [hV]; exact hB2.put
  clear hV hB2 k2
  refine (begin_any p3 _ (hT0.out.next hA3.below) (by rw [b3.out]; decide) (by rw [b3.out]; decide)).mono ?_
  rintro e u3 ⟨rfl, hbu⟩
  have hB3 := hA3.next hbu
  have k3 := hB3.row
  clear hA3 hbu
  rw [h3'.out]
  have kk3 : ∀ o, row? (u3.alloc o) g = some (encP p3) := fun o => (row?_below (below1 u3 o) (row?_lt k3)).trans k3
  go_wp2_with (first | (with_reducible refine wpList_alloc_val zeroPool ?_) | ((with_reducible refine wpList_load_arr arrPool ?_ ?_); go_simp; go_simp) | ((with_reducible refine wpList_store_arr arrPool (vs := encP q) ?_ ?_ (encP_size _) (encP_all _) ?_); exact rfl; go_simp; go_simp))
  obtain ⟨v4, hV⟩ : ∃ v4, v4 = u3.alloc (Obj.cells (encP q) 54) := ⟨_, rfl⟩
  rw [← hV]
  have hA4 : AL w v4 g p3 := by rw [hV]; exact hB3.next (below1 _ _)
  clear hV hB3 k3 kk3
  refine (edge_any p3 1 0 _ (hT0.out.next hA4.below)).mono ?_
  rintro e u4 ⟨rfl, hbu⟩
  have hB4 := hA4.next hbu
  have k4 := hB4.row
  clear hA4 hbu
  rw [h4.out]
  go_wp2_with (first | (with_reducible refine wpList_alloc_val zeroPool ?_) | ((with_reducible refine wpList_load_arr arrPool ?_ ?_); go_simp; go_simp) | ((with_reducible refine wpList_store_arr arrPool (vs := encP p4) ?_ ?_ (encP_size _) (encP_all _) ?_); exact rfl; go_simp; go_simp))
  obtain ⟨v5, hV⟩ : ∃ v5, v5 = u4.setRow g (encP p4) := ⟨_, rfl⟩
  rw [← hV]
  have hA5 : AL w v5 g p4 := by rw [hV]; exact hB4.put
  clear hV hB4 k4
  refine (edge_any p4 0 1 _ (hT0.out.next hA5.below)).mono ?_
  rintro e u5 ⟨rfl, hbu⟩
  have hB5 := hA5.next hbu
  have k5 := hB5.row
  clear hA5 hbu
  rw [h4'.out]
  have kk5 : ∀ o, row? (u5.alloc o) g = some (encP p4) := fun o => (row?_below (below1 u5 o) (row?_lt k5)).trans k5
  go_wp2_with (first | (with_reducible refine wpList_alloc_val zeroPool ?_) | ((with_reducible refine wpList_load_arr arrPool ?_ ?_); go_simp; go_simp) | ((with_reducible refine wpList_store_arr arrPool (vs := encP r) ?_ ?_ (encP_size _) (encP_all _) ?_); exact rfl; go_simp; go_simp))
  obtain ⟨v6, hV⟩ : ∃ v6, v6 = u5.alloc (Obj.cells (encP r) 54) := ⟨_, rfl⟩
  rw [← hV]
  have hA6 : AL w v6 g p4 := by rw [hV]; exact hB5.next (below1 _ _)
  clear hV hB5 k5 kk5
  refine (end_any p4 1 _).mono ?_
  rintro e u6 ⟨rfl, hbu⟩
  have hB6 := hA6.next hbu
  have k6 := hB6.row
  clear hA6 hbu
  rw [h5.out]
  go_wp2_with (first | (with_reducible refine wpList_alloc_val zeroPool ?_) | ((with_reducible refine wpList_load_arr arrPool ?_ ?_); go_simp; go_simp) | ((with_reducible refine wpList_store_arr arrPool (vs := encP p5) ?_ ?_ (encP_size _) (encP_all _) ?_); exact rfl; go_simp; go_simp))
  obtain ⟨v7, hV⟩ : ∃ v7, v7 = u6.setRow g (encP p5) := ⟨_, rfl⟩
  rw [← hV]
  have hA7 : AL w v7 g p5 := by rw [hV]; exact hB6.put
  clear hV hB6 k6
  refine (collect_any p5 _ (hT0.out.next hA7.below)).mono ?_
  rintro e u7 ⟨v, rfl, hown, hbu⟩
  have hB7 := hA7.next hbu
  have k7 := hB7.row
  have hA7k := hA7.row
  clear hA7 hbu
  rw [h6.out] at hown ⊢
  rcases hown.open with ⟨_, hnil⟩ | ⟨g2, cap, rfl, hb2, hs2, hcap, _, hcell⟩
  · cases hnil
  have kc : ∀ c, (u7.setRow g c).cell? ⟨g2, 0, none⟩ = some (.int .i64 2) := fun c => by
    rcases (own_setRow hown (row?_lt hA7k) c).open with ⟨h, _⟩ | ⟨g', cap', h, _, _, _, _, hc⟩
    · cases h
    · injection h with h1
      injection h1 with h2
      injection h2 with h3
      subst h3
      exact hc 0 2 rfl
  clear hown hcell
  have e1 : p6.live = 1#64 := hl6.out
  have e2 : p6.over = 0#64 := ho6.out
  have e3 : p6.count = 2 := hn6.out
  go_wp2_with (first | (with_reducible refine wpList_alloc_val zeroPool ?_) | ((with_reducible refine wpList_load_arr arrPool ?_ ?_); go_simp; go_simp) | ((with_reducible refine wpList_store_arr arrPool (vs := encP p6) ?_ ?_ (encP_size _) (encP_all _) ?_); exact rfl; go_simp; go_simp))
  go_ret
  exact ⟨rfl, below_setRow hB7.below hG.out _⟩
end Go.Proofs.YteclmkmemecckaaDoor
