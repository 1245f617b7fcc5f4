/- What makes the law's rings. -/
import Derived.Test.YtmobicccdmfnaaaDoorMake
set_option linter.unusedVariables false
set_option linter.unusedSimpArgs false
namespace Go.Proofs.YtmobicccdmfnaaaDoor
open Go.RowKit Go.Proofs.Pl

def q7 : List Int := [17, 97, 257, 3329, 7681, 12289, 8380417]
def n4 : List Int := [4, 8, 16, 32]
theorem vld_74 : ∀ i, i < 7 → ∀ j, j < 4 → vld (at_ q7 i) (at_ n4 j) = true ∧ at_ n4 j ≤ 32 := by decide
theorem rem_nat {x m : Int} (hx : 0 ≤ x) (hm : 0 < m) : ∃ r : Nat, r < m.toNat ∧ x.tmod m = (r : Int) := by
  refine ⟨(x % m).toNat, ?_, ?_⟩
  · have := Int.emod_lt_of_pos x hm; omega
  · rw [Int.tmod_eq_emod_of_nonneg hx, Int.toNat_of_nonneg (Int.emod_nonneg _ (by omega))]

set_option maxRecDepth 100000 in
set_option maxHeartbeats 8000000 in
theorem make_Ring (q n : Int) (w : World) (h1 : -9223372036854775808 ≤ q) (h2 : q ≤ 9223372036854775807) (h3 : -9223372036854775808 ≤ n) (h4 : n ≤ 9223372036854775807) :
    Calls Tryd.prog 10 #[.int .i64 q, .int .i64 n] w fun e w' => ∃ q' n', e = .returned (.agg #[.int .i64 q', .int .i64 n']) ∧ vld q' n' = true ∧ n' ≤ 32 ∧ Below w.heap.size w w' := by
  go_enter Tryd.func10, Tryd.ntmps10
  by_cases hq : q < 0
  · by_cases hn : n < 0
    · skip
      obtain ⟨r, hr, hra⟩ := rem_nat (x := -(q + 1)) (m := 7) (by omega) (by omega)
      obtain ⟨u, hu, hub⟩ := rem_nat (x := -(n + 1)) (m := 4) (by omega) (by omega)
      have hr7 : r < 7 := hr
      have hu4 : u < 4 := hu
      have hr7i : (r : Int) < 7 := by omega
      have hu4i : (u : Int) < 4 := by omega
      go_wp2
      obtain ⟨W, hW⟩ : ∃ W : World, W = ((w.alloc (.cells #[.int .i64 0, .int .i64 0] 25)).alloc (.cells (ints .i64 q7) 3)).alloc (.cells (ints .i64 n4) 3) := ⟨_, rfl⟩
      have hB : Below w.heap.size w W := by rw [hW]; exact Below.then_ (Below.then_ (below_alloc_ _ _) (below_alloc_ _ _)) (below_alloc_ _ _)
      have hA7 : Arr W 3 .i64 (w.heap.size + 1) q7 := by
        rw [hW]
        have h := (Arr.new (w.alloc (.cells #[.int .i64 0, .int .i64 0] 25)) 3 .i64 q7).below (below_alloc_ _ (.cells (ints .i64 n4) 3))
        rw [World.size_alloc] at h; exact h
      have hA4 : Arr W 3 .i64 (w.heap.size + 1 + 1) n4 := by
        rw [hW]
        have h := Arr.new ((w.alloc (.cells #[.int .i64 0, .int .i64 0] 25)).alloc (.cells (ints .i64 q7) 3)) 3 .i64 n4
        rw [World.size_alloc, World.size_alloc] at h; exact h
      have k7 := hA7.cell (j := r) hr7
      have k4 := hA4.cell (j := u) hu4
      have HV := Lib.hid (vld_74 r hr7 u hu4)
      have hf0 : W.frozen? ⟨w.heap.size, 0, none⟩ = false := by
        rw [hW]; exact (Below.frozen (Below.then_ (below_alloc_ (w.alloc (.cells #[.int .i64 0, .int .i64 0] 25)) _) (below_alloc_ _ _)) (by simp)).trans (by simp)
      have hf1 : W.frozen? ⟨w.heap.size, 1, none⟩ = false := by
        rw [hW]; exact (Below.frozen (Below.then_ (below_alloc_ (w.alloc (.cells #[.int .i64 0, .int .i64 0] 25)) _) (below_alloc_ _ _)) (by simp)).trans (by simp)
      have hc0 : W.cell? ⟨w.heap.size, 0, none⟩ = some (.int .i64 0) := by
        rw [hW]; exact cell_below (below_alloc_ _ _) (cell_below (below_alloc_ _ _) (cells2_0 _ _ _ _))
      have hc1 : W.cell? ⟨w.heap.size, 1, none⟩ = some (.int .i64 0) := by
        rw [hW]; exact cell_below (below_alloc_ _ _) (cell_below (below_alloc_ _ _) (cells2_1 _ _ _ _))
      have hH : W.heap[w.heap.size]? = some (.cells #[.int .i64 0, .int .i64 0] 25 (0, 0)) := by
        rw [hW]; exact ((Below.then_ (below_alloc_ (w.alloc (.cells #[.int .i64 0, .int .i64 0] 25)) _) (below_alloc_ _ _)).block w.heap.size (by simp)).trans (heap_alloc_new w _)
      have HH := Lib.hid hH
      clear hH
      have hsz : w.heap.size < W.heap.size := World.block_lt_of_cell? W _ hc0
      generalize at_ q7 r = qv at *
      generalize at_ n4 u = nv at *
      simp only [ints, q7, n4, List.map_toArray, List.map_cons, List.map_nil] at hW
      rw [← hW]
      clear hW hA7 hA4
      refine still_tail 11 (by kernel_rfl) (by kernel_rfl) ?_
      simp only [List.take_succ_cons, List.take_zero, List.drop_succ_cons, List.drop_zero]
      repeat still_step
      refine wpStill_nil ?_
      go_wp2
      have e1 := heap_setCell_same W w.heap.size 0 _ _ (.int .i64 qv) HH.out
      have e2 := heap_setCell_same _ w.heap.size 1 _ _ (.int .i64 nv) e1
      refine bodyPost_ret (results_cell_row rfl _ _ w.heap.size 25 #[.int .i64 qv, .int .i64 nv] (0, 0) _ rfl e2 Tryd.underlying25 rfl (by kernel_rfl)) rfl ?_
      exact ⟨qv, nv, rfl, HV.out.1, HV.out.2, ((hB.setCell (Nat.le_refl _) _).setCell (Nat.le_refl _) _).drew⟩
    · skip
      obtain ⟨r, hr, hra⟩ := rem_nat (x := -(q + 1)) (m := 7) (by omega) (by omega)
      obtain ⟨u, hu, hub⟩ := rem_nat (x := n) (m := 4) (by omega) (by omega)
      have hr7 : r < 7 := hr
      have hu4 : u < 4 := hu
      have hr7i : (r : Int) < 7 := by omega
      have hu4i : (u : Int) < 4 := by omega
      go_wp2
      obtain ⟨W, hW⟩ : ∃ W : World, W = ((w.alloc (.cells #[.int .i64 0, .int .i64 0] 25)).alloc (.cells (ints .i64 q7) 3)).alloc (.cells (ints .i64 n4) 3) := ⟨_, rfl⟩
      have hB : Below w.heap.size w W := by rw [hW]; exact Below.then_ (Below.then_ (below_alloc_ _ _) (below_alloc_ _ _)) (below_alloc_ _ _)
      have hA7 : Arr W 3 .i64 (w.heap.size + 1) q7 := by
        rw [hW]
        have h := (Arr.new (w.alloc (.cells #[.int .i64 0, .int .i64 0] 25)) 3 .i64 q7).below (below_alloc_ _ (.cells (ints .i64 n4) 3))
        rw [World.size_alloc] at h; exact h
      have hA4 : Arr W 3 .i64 (w.heap.size + 1 + 1) n4 := by
        rw [hW]
        have h := Arr.new ((w.alloc (.cells #[.int .i64 0, .int .i64 0] 25)).alloc (.cells (ints .i64 q7) 3)) 3 .i64 n4
        rw [World.size_alloc, World.size_alloc] at h; exact h
      have k7 := hA7.cell (j := r) hr7
      have k4 := hA4.cell (j := u) hu4
      have HV := Lib.hid (vld_74 r hr7 u hu4)
      have hf0 : W.frozen? ⟨w.heap.size, 0, none⟩ = false := by
        rw [hW]; exact (Below.frozen (Below.then_ (below_alloc_ (w.alloc (.cells #[.int .i64 0, .int .i64 0] 25)) _) (below_alloc_ _ _)) (by simp)).trans (by simp)
      have hf1 : W.frozen? ⟨w.heap.size, 1, none⟩ = false := by
        rw [hW]; exact (Below.frozen (Below.then_ (below_alloc_ (w.alloc (.cells #[.int .i64 0, .int .i64 0] 25)) _) (below_alloc_ _ _)) (by simp)).trans (by simp)
      have hc0 : W.cell? ⟨w.heap.size, 0, none⟩ = some (.int .i64 0) := by
        rw [hW]; exact cell_below (below_alloc_ _ _) (cell_below (below_alloc_ _ _) (cells2_0 _ _ _ _))
      have hc1 : W.cell? ⟨w.heap.size, 1, none⟩ = some (.int .i64 0) := by
        rw [hW]; exact cell_below (below_alloc_ _ _) (cell_below (below_alloc_ _ _) (cells2_1 _ _ _ _))
      have hH : W.heap[w.heap.size]? = some (.cells #[.int .i64 0, .int .i64 0] 25 (0, 0)) := by
        rw [hW]; exact ((Below.then_ (below_alloc_ (w.alloc (.cells #[.int .i64 0, .int .i64 0] 25)) _) (below_alloc_ _ _)).block w.heap.size (by simp)).trans (heap_alloc_new w _)
      have HH := Lib.hid hH
      clear hH
      have hsz : w.heap.size < W.heap.size := World.block_lt_of_cell? W _ hc0
      generalize at_ q7 r = qv at *
      generalize at_ n4 u = nv at *
      simp only [ints, q7, n4, List.map_toArray, List.map_cons, List.map_nil] at hW
      rw [← hW]
      clear hW hA7 hA4
      refine still_tail 11 (by kernel_rfl) (by kernel_rfl) ?_
      simp only [List.take_succ_cons, List.take_zero, List.drop_succ_cons, List.drop_zero]
      repeat still_step
      refine wpStill_nil ?_
      go_wp2
      have e1 := heap_setCell_same W w.heap.size 0 _ _ (.int .i64 qv) HH.out
      have e2 := heap_setCell_same _ w.heap.size 1 _ _ (.int .i64 nv) e1
      refine bodyPost_ret (results_cell_row rfl _ _ w.heap.size 25 #[.int .i64 qv, .int .i64 nv] (0, 0) _ rfl e2 Tryd.underlying25 rfl (by kernel_rfl)) rfl ?_
      exact ⟨qv, nv, rfl, HV.out.1, HV.out.2, ((hB.setCell (Nat.le_refl _) _).setCell (Nat.le_refl _) _).drew⟩
  · by_cases hn : n < 0
    · skip
      obtain ⟨r, hr, hra⟩ := rem_nat (x := q) (m := 7) (by omega) (by omega)
      obtain ⟨u, hu, hub⟩ := rem_nat (x := -(n + 1)) (m := 4) (by omega) (by omega)
      have hr7 : r < 7 := hr
      have hu4 : u < 4 := hu
      have hr7i : (r : Int) < 7 := by omega
      have hu4i : (u : Int) < 4 := by omega
      go_wp2
      obtain ⟨W, hW⟩ : ∃ W : World, W = ((w.alloc (.cells #[.int .i64 0, .int .i64 0] 25)).alloc (.cells (ints .i64 q7) 3)).alloc (.cells (ints .i64 n4) 3) := ⟨_, rfl⟩
      have hB : Below w.heap.size w W := by rw [hW]; exact Below.then_ (Below.then_ (below_alloc_ _ _) (below_alloc_ _ _)) (below_alloc_ _ _)
      have hA7 : Arr W 3 .i64 (w.heap.size + 1) q7 := by
        rw [hW]
        have h := (Arr.new (w.alloc (.cells #[.int .i64 0, .int .i64 0] 25)) 3 .i64 q7).below (below_alloc_ _ (.cells (ints .i64 n4) 3))
        rw [World.size_alloc] at h; exact h
      have hA4 : Arr W 3 .i64 (w.heap.size + 1 + 1) n4 := by
        rw [hW]
        have h := Arr.new ((w.alloc (.cells #[.int .i64 0, .int .i64 0] 25)).alloc (.cells (ints .i64 q7) 3)) 3 .i64 n4
        rw [World.size_alloc, World.size_alloc] at h; exact h
      have k7 := hA7.cell (j := r) hr7
      have k4 := hA4.cell (j := u) hu4
      have HV := Lib.hid (vld_74 r hr7 u hu4)
      have hf0 : W.frozen? ⟨w.heap.size, 0, none⟩ = false := by
        rw [hW]; exact (Below.frozen (Below.then_ (below_alloc_ (w.alloc (.cells #[.int .i64 0, .int .i64 0] 25)) _) (below_alloc_ _ _)) (by simp)).trans (by simp)
      have hf1 : W.frozen? ⟨w.heap.size, 1, none⟩ = false := by
        rw [hW]; exact (Below.frozen (Below.then_ (below_alloc_ (w.alloc (.cells #[.int .i64 0, .int .i64 0] 25)) _) (below_alloc_ _ _)) (by simp)).trans (by simp)
      have hc0 : W.cell? ⟨w.heap.size, 0, none⟩ = some (.int .i64 0) := by
        rw [hW]; exact cell_below (below_alloc_ _ _) (cell_below (below_alloc_ _ _) (cells2_0 _ _ _ _))
      have hc1 : W.cell? ⟨w.heap.size, 1, none⟩ = some (.int .i64 0) := by
        rw [hW]; exact cell_below (below_alloc_ _ _) (cell_below (below_alloc_ _ _) (cells2_1 _ _ _ _))
      have hH : W.heap[w.heap.size]? = some (.cells #[.int .i64 0, .int .i64 0] 25 (0, 0)) := by
        rw [hW]; exact ((Below.then_ (below_alloc_ (w.alloc (.cells #[.int .i64 0, .int .i64 0] 25)) _) (below_alloc_ _ _)).block w.heap.size (by simp)).trans (heap_alloc_new w _)
      have HH := Lib.hid hH
      clear hH
      have hsz : w.heap.size < W.heap.size := World.block_lt_of_cell? W _ hc0
      generalize at_ q7 r = qv at *
      generalize at_ n4 u = nv at *
      simp only [ints, q7, n4, List.map_toArray, List.map_cons, List.map_nil] at hW
      rw [← hW]
      clear hW hA7 hA4
      refine still_tail 11 (by kernel_rfl) (by kernel_rfl) ?_
      simp only [List.take_succ_cons, List.take_zero, List.drop_succ_cons, List.drop_zero]
      repeat still_step
      refine wpStill_nil ?_
      go_wp2
      have e1 := heap_setCell_same W w.heap.size 0 _ _ (.int .i64 qv) HH.out
      have e2 := heap_setCell_same _ w.heap.size 1 _ _ (.int .i64 nv) e1
      refine bodyPost_ret (results_cell_row rfl _ _ w.heap.size 25 #[.int .i64 qv, .int .i64 nv] (0, 0) _ rfl e2 Tryd.underlying25 rfl (by kernel_rfl)) rfl ?_
      exact ⟨qv, nv, rfl, HV.out.1, HV.out.2, ((hB.setCell (Nat.le_refl _) _).setCell (Nat.le_refl _) _).drew⟩
    · skip
      obtain ⟨r, hr, hra⟩ := rem_nat (x := q) (m := 7) (by omega) (by omega)
      obtain ⟨u, hu, hub⟩ := rem_nat (x := n) (m := 4) (by omega) (by omega)
      have hr7 : r < 7 := hr
      have hu4 : u < 4 := hu
      have hr7i : (r : Int) < 7 := by omega
      have hu4i : (u : Int) < 4 := by omega
      go_wp2
      obtain ⟨W, hW⟩ : ∃ W : World, W = ((w.alloc (.cells #[.int .i64 0, .int .i64 0] 25)).alloc (.cells (ints .i64 q7) 3)).alloc (.cells (ints .i64 n4) 3) := ⟨_, rfl⟩
      have hB : Below w.heap.size w W := by rw [hW]; exact Below.then_ (Below.then_ (below_alloc_ _ _) (below_alloc_ _ _)) (below_alloc_ _ _)
      have hA7 : Arr W 3 .i64 (w.heap.size + 1) q7 := by
        rw [hW]
        have h := (Arr.new (w.alloc (.cells #[.int .i64 0, .int .i64 0] 25)) 3 .i64 q7).below (below_alloc_ _ (.cells (ints .i64 n4) 3))
        rw [World.size_alloc] at h; exact h
      have hA4 : Arr W 3 .i64 (w.heap.size + 1 + 1) n4 := by
        rw [hW]
        have h := Arr.new ((w.alloc (.cells #[.int .i64 0, .int .i64 0] 25)).alloc (.cells (ints .i64 q7) 3)) 3 .i64 n4
        rw [World.size_alloc, World.size_alloc] at h; exact h
      have k7 := hA7.cell (j := r) hr7
      have k4 := hA4.cell (j := u) hu4
      have HV := Lib.hid (vld_74 r hr7 u hu4)
      have hf0 : W.frozen? ⟨w.heap.size, 0, none⟩ = false := by
        rw [hW]; exact (Below.frozen (Below.then_ (below_alloc_ (w.alloc (.cells #[.int .i64 0, .int .i64 0] 25)) _) (below_alloc_ _ _)) (by simp)).trans (by simp)
      have hf1 : W.frozen? ⟨w.heap.size, 1, none⟩ = false := by
        rw [hW]; exact (Below.frozen (Below.then_ (below_alloc_ (w.alloc (.cells #[.int .i64 0, .int .i64 0] 25)) _) (below_alloc_ _ _)) (by simp)).trans (by simp)
      have hc0 : W.cell? ⟨w.heap.size, 0, none⟩ = some (.int .i64 0) := by
        rw [hW]; exact cell_below (below_alloc_ _ _) (cell_below (below_alloc_ _ _) (cells2_0 _ _ _ _))
      have hc1 : W.cell? ⟨w.heap.size, 1, none⟩ = some (.int .i64 0) := by
        rw [hW]; exact cell_below (below_alloc_ _ _) (cell_below (below_alloc_ _ _) (cells2_1 _ _ _ _))
      have hH : W.heap[w.heap.size]? = some (.cells #[.int .i64 0, .int .i64 0] 25 (0, 0)) := by
        rw [hW]; exact ((Below.then_ (below_alloc_ (w.alloc (.cells #[.int .i64 0, .int .i64 0] 25)) _) (below_alloc_ _ _)).block w.heap.size (by simp)).trans (heap_alloc_new w _)
      have HH := Lib.hid hH
      clear hH
      have hsz : w.heap.size < W.heap.size := World.block_lt_of_cell? W _ hc0
      generalize at_ q7 r = qv at *
      generalize at_ n4 u = nv at *
      simp only [ints, q7, n4, List.map_toArray, List.map_cons, List.map_nil] at hW
      rw [← hW]
      clear hW hA7 hA4
      refine still_tail 11 (by kernel_rfl) (by kernel_rfl) ?_
      simp only [List.take_succ_cons, List.take_zero, List.drop_succ_cons, List.drop_zero]
      repeat still_step
      refine wpStill_nil ?_
      go_wp2
      have e1 := heap_setCell_same W w.heap.size 0 _ _ (.int .i64 qv) HH.out
      have e2 := heap_setCell_same _ w.heap.size 1 _ _ (.int .i64 nv) e1
      refine bodyPost_ret (results_cell_row rfl _ _ w.heap.size 25 #[.int .i64 qv, .int .i64 nv] (0, 0) _ rfl e2 Tryd.underlying25 rfl (by kernel_rfl)) rfl ?_
      exact ⟨qv, nv, rfl, HV.out.1, HV.out.2, ((hB.setCell (Nat.le_refl _) _).setCell (Nat.le_refl _) _).drew⟩
end Go.Proofs.YtmobicccdmfnaaaDoor
