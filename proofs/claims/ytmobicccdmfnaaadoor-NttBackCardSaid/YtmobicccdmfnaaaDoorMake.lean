/- What makes the law's rings and vectors. -/
import Derived.Test.YtmobicccdmfnaaaDoorSame
set_option linter.unusedVariables false
set_option linter.unusedSimpArgs false
namespace Go.Proofs.YtmobicccdmfnaaaDoor
open Go.RowKit Go.Proofs.Pl

/-- The vector made of some numbers. -/
def mkV (q : Int) (_N : Nat) (l : List Int) (k : Nat) (p : Nat) : Int := if p < k ∧ p < l.length then at_ l p % q else 0
theorem mkV_null (q : Int) (N : Nat) (l : List Int) : ofF N (mkV q N l 0) = List.replicate N 0 := by
  rw [← ofF_null]; exact ofF_congr fun p _ => by simp [mkV]
theorem mkV_step {q : Int} {N : Nat} {l : List Int} {k : Nat} (h : k < l.length) : (ofF N (mkV q N l k)).set k (at_ l k % q) = ofF N (mkV q N l (k + 1)) := by
  rw [set_ofF]
  refine ofF_congr fun p _ => ?_
  unfold mkV
  by_cases hp : p = k
  · subst hp; simp [h]
  · rw [if_neg hp]
    by_cases h2 : p < k ∧ p < l.length
    · rw [if_pos h2, if_pos ⟨by omega, h2.2⟩]
    · rw [if_neg h2, if_neg (by omega)]
theorem mkV_vec {q n : Int} (hq : 0 < q) (hn : 0 ≤ n) (l : List Int) (k : Nat) : Vec q n (ofF n.toNat (mkV q n.toNat l k)) := by
  refine ⟨by rw [ofF_length]; omega, fun i hi => ?_⟩
  rw [ofF_length] at hi
  rw [at_ofF _ hi]
  unfold mkV
  split
  · exact ⟨Int.emod_nonneg _ (by omega), Int.emod_lt_of_pos _ hq⟩
  · omega

set_option maxRecDepth 100000 in
set_option maxHeartbeats 4000000 in
theorem make_Vector (q : Int) (N : Nat) (v : Value) (l : List Int) (w : World) (hq : 1 < q) (hq2 : q ≤ 8380417) (hN : N ≤ 256) (hs : RS w .i64 v l) :
    Calls Tryd.prog 11 #[.agg #[.int .i64 q, .int .i64 N], v] w fun e w' => ∃ r, e = .returned r ∧ Below w.heap.size w w' ∧ ∃ k, FV w w' 3 .i64 r (ofF N (mkV q N l k)) := by
  obtain ⟨A, c, rfl, hc1, hc2, hxc⟩ := hs
  have HXC := Lib.hid hxc
  clear hxc
  have hmk := run_make_ints N (by omega)
  go_enter Tryd.func11, Tryd.ntmps11
  go_wp2
  obtain ⟨w1, hw1⟩ : ∃ w1 : World, w1 = (w.alloc (.cells #[.int .i64 q, .int .i64 N] 25)).alloc (.cells (ints .i64 (List.replicate N 0)) 3) := ⟨_, rfl⟩
  have hB1 : Below w.heap.size w w1 := by rw [hw1]; exact Below.then_ (below_alloc_ _ _) (below_alloc_ _ _)
  have hcq1 : w1.cell? ⟨w.heap.size, 0, none⟩ = some (.int .i64 q) := by rw [hw1]; exact cell_below (below_alloc_ _ _) (cells2_0 _ _ _ _)
  have hcn1 : w1.cell? ⟨w.heap.size, 1, none⟩ = some (.int .i64 N) := by rw [hw1]; exact cell_below (below_alloc_ _ _) (cells2_1 _ _ _ _)
  have hA1 : Arr w1 3 .i64 (w.heap.size + 1) (ofF N (mkV q N l 0)) := by
    rw [mkV_null, hw1]
    have h := Arr.new (w.alloc (.cells #[.int .i64 q, .int .i64 N] 25)) 3 .i64 (List.replicate N 0)
    rw [World.size_alloc] at h; exact h
  rw [← hw1]
  clear hw1 hmk
  go_loopw [6, 7] (fun iv _ wr => ∃ k : Nat, k ≤ N ∧ k ≤ l.length ∧ iv = .int .i64 k ∧ Below w.heap.size w wr ∧ wr.cell? ⟨w.heap.size, 0, none⟩ = some (.int .i64 q) ∧ wr.cell? ⟨w.heap.size, 1, none⟩ = some (.int .i64 N) ∧ Arr wr 3 .i64 (w.heap.size + 1) (ofF N (mkV q N l k))) (fun iv _ _ => N - (intOf iv).toNat)
  case atStart => exact ⟨0, Nat.zero_le _, Nat.zero_le _, rfl, hB1, hcq1, hcn1, hA1⟩
  case round =>
    obtain ⟨k, hk, hkl, rfl, hB, hcq, hcn, hA⟩ := hrel
    clear hB1 hcq1 hcn1 hA1
    by_cases h1 : k < N
    · by_cases h2 : k < l.length
      · obtain ⟨ad, rfl, hca⟩ := HXC.out k h2
        have hca1 := cell_below hB hca
        have hfr := hA.free k
        have hco := hA.cell (j := k) (by rw [ofF_length]; exact h1)
        rw [at_ofF _ h1] at hco
        clear hca
        have hq0 : ¬ (q = 0) := by omega
        generalize hx : at_ l k = x at hca1
        have HX := Lib.hid hx
        clear hx
        have g := tmod_neg (a := x) (q := q) (by omega)
        have g' := tmod_pos (a := x) (q := q) (by omega)
        have b1 : 0 ≤ x % q := Int.emod_nonneg _ (by omega)
        have b2 : x % q < q := Int.emod_lt_of_pos _ (by omega)
        have hwr : wrap64 (x % q) = x % q := by
          unfold wrap64; omega
        by_cases hneg : x.tmod q < 0
        · have e := g hneg
          clear g g'
          go_wp2
          go_quiet (fail)
          go_wp2
          go_roundw
          case rel =>
            refine ⟨k + 1, by omega, by omega, by go_num, (pw_below_drewN hB _).setCell (Nat.le_succ _) _, ?_, ?_, ?_⟩
            · rw [cell_far (Nat.ne_of_lt (Nat.lt_succ_self _))]; simpa using hcq
            · rw [cell_far (Nat.ne_of_lt (Nat.lt_succ_self _))]; simpa using hcn
            · rw [← mkV_step h2, HX.out]; exact (hA.drewN _).set _ (by rw [ofF_length]; exact h1)
          case measure => simp [intOf]; omega
        · have e := g' (by omega)
          clear g g'
          have hneg2 : ¬ (x % q < 0) := by omega
          go_wp2
          go_quiet (fail)
          go_wp2
          go_roundw
          case rel =>
            refine ⟨k + 1, by omega, by omega, by go_num, (pw_below_drewN hB _).setCell (Nat.le_succ _) _, ?_, ?_, ?_⟩
            · rw [cell_far (Nat.ne_of_lt (Nat.lt_succ_self _))]; simpa using hcq
            · rw [cell_far (Nat.ne_of_lt (Nat.lt_succ_self _))]; simpa using hcn
            · rw [← mkV_step h2, HX.out]; exact (hA.drewN _).set _ (by rw [ofF_length]; exact h1)
          case measure => simp [intOf]; omega
      · go_wp2
        go_ret
        exact ⟨_, rfl, hB, k, w.heap.size + 1, N, Nat.le_succ _, by rw [ofF_length]; rfl, by rw [ofF_length]; exact Nat.le_refl _, by omega, hA⟩
    · go_wp2
      go_ret
      exact ⟨_, rfl, hB, k, w.heap.size + 1, N, Nat.le_succ _, by rw [ofF_length]; rfl, by rw [ofF_length]; exact Nat.le_refl _, by omega, hA⟩
end Go.Proofs.YtmobicccdmfnaaaDoor
