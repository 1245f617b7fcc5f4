/- Rings and vectors, second part: what is made number by number. -/
import Derived.Test.YtmobicccdmfnaaaDoorRing
set_option linter.unusedVariables false
set_option linter.unusedSimpArgs false
namespace Go.Proofs.YtmobicccdmfnaaaDoor
open Go.RowKit Go.Proofs.Pl

theorem vld_q {q n : Int} (h : vld q n = true) : isq q = true := by simp only [vld, Bool.and_eq_true] at h; exact h.2
theorem vld_n {q n : Int} (h : vld q n = true) : n ∈ ns := by
  simp only [vld, Bool.and_eq_true, isn, Bool.or_eq_true, beq_iff_eq] at h
  simp only [ns, List.mem_cons, List.not_mem_nil, or_false]
  omega
theorem vld_nat {q n : Int} (h : vld q n = true) : ∃ N : Nat, n = N ∧ 4 ≤ N ∧ N ≤ 256 := by
  have := n_facts (vld_n h)
  exact ⟨n.toNat, by omega, by omega, by omega⟩

/-- Numbers made so far, the others 0. -/
def upto (N k : Nat) (f : Nat → Int) : List Int := ofF N fun p => if p < k then f p else 0
theorem upto_null (N : Nat) (f : Nat → Int) : upto N 0 f = List.replicate N 0 := by
  unfold upto; rw [← ofF_null]; exact ofF_congr fun i _ => by simp
theorem upto_all (N : Nat) (f : Nat → Int) : upto N N f = ofF N f := ofF_congr fun i hi => by simp [hi]
theorem upto_set {N k : Nat} (f : Nat → Int) : (upto N k f).set k (f k) = upto N (k + 1) f := by
  unfold upto
  rw [set_ofF]
  refine ofF_congr fun i _ => ?_
  by_cases h : i = k
  · subst h; simp
  · by_cases h2 : i < k
    · simp [h, h2, show i < k + 1 by omega]
    · simp [h, h2, show ¬ i < k + 1 by omega]
theorem upto_length (N k : Nat) (f : Nat → Int) : (upto N k f).length = N := ofF_length _ _


set_option maxRecDepth 20000 in
set_option maxHeartbeats 2000000 in
theorem ring_Mod (q n : Int) (v : Value) (xs : List Int) (er : Nat → Addr) (w : World) (h1 : GE w er 101) (hv : vld q n = true) (hl : (xs.length : Int) = n) (hs : RS w .i64 v xs) :
    Calls Tryd.prog 68 #[.agg #[.int .i64 q, .int .i64 n], v] w fun e w' => ∃ r, e = .returned (.tuple #[r, .nilIface]) ∧ Below w.heap.size w w' ∧ FV w w' 3 .i64 r (xs.map (· % q)) := by
  obtain ⟨A, c, rfl, hc1, hc2, hx⟩ := hs
  subst hl
  obtain ⟨N, hN, hN4, hN'⟩ := vld_nat hv
  have hN4 : 4 ≤ xs.length := by omega
  have hN1 : xs.length ≤ 256 := by omega
  clear hN
  have hq := vld_q hv
  have hle : xs.length ≤ 1048576 := by omega
  have hmk := run_make_ints xs.length hle
  clear hle
  go_enter Tryd.func68, Tryd.ntmps68
  go_wp2_with (go_at_call 111; refine (ring_Valid _ _ er _ (h1.below (below_alloc_ _ _)) hv).mono ?_; rintro e w1 ⟨rfl, hb1⟩; have hb2 := Below.then_ (below_alloc_ _ _) hb1; obtain ⟨hc, hf⟩ := bcell hb1)
  have hlt1 : w.heap.size < w1.heap.size := by have := hb1.size; simp at this; omega
  have c1 : w1.cell? ⟨w.heap.size, 0, none⟩ = some (.int .i64 q) := cell_below hb1 (by simp)
  go_loopw [25] (fun iv wr => ∃ k : Nat, k ≤ xs.length ∧ iv = .int .i64 k ∧ Below w.heap.size w wr ∧ wr.cell? ⟨w.heap.size, 0, none⟩ = some (.int .i64 q) ∧ w1.heap.size < wr.heap.size ∧ Arr wr 3 .i64 w1.heap.size (upto xs.length k fun p => at_ xs p % q)) (fun iv _ => xs.length - (intOf iv).toNat)
  case atStart =>
    refine ⟨0, Nat.zero_le _, rfl, Below.then_ hb2 (below_alloc_ _ _), cell_below (below_alloc_ _ _) c1, by simp, ?_⟩
    rw [upto_null]; exact Arr.new _ _ _ _
  case round =>
    obtain ⟨k, hk, rfl, hB, hcq, hsz, hA⟩ := hrel
    by_cases hlt : k < xs.length
    · obtain ⟨ad, rfl, hcell⟩ := hx k hlt
      have hcell1 := cell_below hB hcell
      have hfr := hA.free k
      have hco := hA.cell (j := k) (by rw [upto_length]; exact hlt)
      clear hx hcell hc hf c1 hmk hN4 hN' 
      go_wp2
      refine still_tail 10 (by kernel_rfl) (by kernel_rfl) ?_
      simp only [List.take_succ_cons, List.take_zero, List.drop_succ_cons, List.drop_zero]
      repeat (first | still_step | still_call (still_of (zq_Mod _ _ _ hq)))
      refine wpStill_nil ?_
      go_wp2
      go_roundw
      case rel =>
        refine ⟨k + 1, by omega, by go_num, (hB.setCell (Nat.le_of_lt hlt1) _).drew, ?_, by simpa using hsz, ?_⟩
        · rw [← hcq]; exact cell_far (Nat.ne_of_lt hlt1)
        · rw [← upto_set]; exact (hA.set _ (by rw [upto_length]; exact hlt)).drew
      case measure => simp [intOf]; omega
    · obtain rfl : k = xs.length := by omega
      go_wp2
      go_ret2
      rw [upto_all, map_ofF (· % q)] at hA
      exact ⟨_, rfl, hB, _, xs.length, Nat.le_of_lt hlt1, by simp, by simp, by omega, hA⟩
end Go.Proofs.YtmobicccdmfnaaaDoor
