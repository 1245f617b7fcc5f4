/- Rings and vectors, third part: several vectors; a vector so many times. -/
import Derived.Test.YtmobicccdmfnaaaDoorRing2
set_option linter.unusedVariables false
set_option linter.unusedSimpArgs false
namespace Go.Proofs.YtmobicccdmfnaaaDoor
open Go.RowKit Go.Proofs.Pl

set_option maxRecDepth 100000 in
set_option maxHeartbeats 2000000 in
theorem ring_both (q n : Int) (b m c : Nat) (us : Nat → Value) (xss : Nat → List Int) (er : Nat → Addr) (w : World) (h1 : GE w er 101) (h2 : GE w er 102) (hm : m ≤ 1000)
    (hu : ∀ j, j < m → w.cell? ⟨b, j, none⟩ = some (us j) ∧ RS w .i64 (us j) (xss j) ∧ vcode q n (xss j) = 0) :
    Calls Tryd.prog 67 #[.agg #[.int .i64 q, .int .i64 n], .slice (some ⟨b, 0, none⟩) m c] w fun e w' => e = .returned .nilIface ∧ Below w.heap.size w w' := by
  have HU := Lib.hid hu
  clear hu
  go_enter Tryd.func67, Tryd.ntmps67
  go_wp2
  go_loopw [10] (fun iv wr => ∃ k : Nat, k ≤ m ∧ iv = .int .i64 k ∧ Below w.heap.size w wr ∧ w.heap.size < wr.heap.size ∧ wr.cell? ⟨w.heap.size, 0, none⟩ = some (.int .i64 q) ∧ wr.cell? ⟨w.heap.size, 1, none⟩ = some (.int .i64 n)) (fun iv _ => m - (intOf iv).toNat)
  case atStart => exact ⟨0, Nat.zero_le _, rfl, below_alloc_ _ _, by simp, by simp, by simp⟩
  case round =>
    obtain ⟨k, hk, rfl, hB, hsz, hcq, hcn⟩ := hrel
    by_cases hlt : k < m
    · obtain ⟨hcell, hrs, hvc⟩ := HU.out k hlt
      have hcell1 := cell_below hB hcell
      have hrs1 := hrs.below hB
      have HV := Lib.hid hvc
      clear hcell hrs hvc
      have hadd : (⟨b, 0, none⟩ : Addr).add k = ⟨b, k, none⟩ := by unfold Addr.add; split <;> simp_all
      go_wp2_with (go_at_call 58; refine (ring_Vector_any _ _ _ _ er _ (h1.below hB) (h2.below hB) hrs1).mono ?_; rintro e w1 ⟨rfl, hb1⟩; rw [HV.out, er0_none])
      go_roundw
      case rel => exact ⟨k + 1, by omega, by go_num, Below.then_ hB hb1, Nat.lt_of_lt_of_le hsz hb1.size, cell_below hb1 hcq, cell_below hb1 hcn⟩
      case measure => simp [intOf]; omega
    · obtain rfl : k = m := by omega
      go_wp2
      go_ret
      exact ⟨rfl, hB⟩

set_option maxRecDepth 100000 in
set_option maxHeartbeats 2000000 in
theorem ring_Scale (q n z : Int) (v : Value) (xs : List Int) (er : Nat → Addr) (w : World) (h1 : GE w er 101) (h2 : GE w er 102) (hv : vld q n = true) (hx : Vec q n xs) (hs : RS w .i64 v xs) :
    Calls Tryd.prog 65 #[.agg #[.int .i64 q, .int .i64 n], v, .int .i64 z] w fun e w' => ∃ r, e = .returned (.tuple #[r, .nilIface]) ∧ Below w.heap.size w w' ∧ FV w w' 3 .i64 r (xs.map fun x => x * (z % q) % q) := by
  have HC := Lib.hid (vec_vcode hv hx)
  have hs0 := hs
  obtain ⟨A, c, rfl, hc1, hc2, hxc⟩ := hs
  have hl : (xs.length : Int) = n := hx.1
  subst hl
  have hN1 : xs.length ≤ 256 := by have := n_facts (vld_n hv); omega
  have hq := vld_q hv
  have hle : xs.length ≤ 1048576 := by omega
  have hmk := run_make_ints xs.length hle
  clear hle hx
  go_enter Tryd.func65, Tryd.ntmps65
  go_wp2_with (first | (go_at_call 67; refine (ring_both _ _ _ 1 _ (fun _ => .slice A xs.length c) (fun _ => xs) er _ ((h1.below (below_alloc_ _ _)).below (below_alloc_ _ _)) ((h2.below (below_alloc_ _ _)).below (below_alloc_ _ _)) (by omega) ?_).mono ?_; rotate_left; rintro e w1 ⟨rfl, hb1⟩; have hb2 := Below.then_ (Below.then_ (below_alloc_ _ _) (below_alloc_ _ _)) hb1; obtain ⟨hc, hf⟩ := bcell hb1) | (go_at_call 113; refine (zq_Mod _ _ _ hq).mono ?_; rintro e w' ⟨rfl, rfl⟩))
  case refine_1 =>
    intro j hj
    obtain rfl : j = 0 := by omega
    exact ⟨by simp, (hs0.below (below_alloc_ _ _)).below (below_alloc_ _ _), HC.out⟩
  have hlt1 : w.heap.size < w1.heap.size := by have := hb1.size; simp at this; omega
  have c1 : w1.cell? ⟨w.heap.size, 0, none⟩ = some (.int .i64 q) := cell_below hb1 (by simp)
  go_loopw [28] (fun iv wr => ∃ k : Nat, k ≤ xs.length ∧ iv = .int .i64 k ∧ Below w.heap.size w wr ∧ wr.cell? ⟨w.heap.size, 0, none⟩ = some (.int .i64 q) ∧ w1.heap.size < wr.heap.size ∧ Arr wr 3 .i64 w1.heap.size (upto xs.length k fun p => at_ xs p * (z % q) % q)) (fun iv _ => xs.length - (intOf iv).toNat)
  case atStart =>
    refine ⟨0, Nat.zero_le _, rfl, Below.then_ hb2 (below_alloc_ _ _), cell_below (below_alloc_ _ _) c1, by simp, ?_⟩
    rw [upto_null]; exact Arr.new _ _ _ _
  case round =>
    obtain ⟨k, hk, rfl, hB, hcq, hsz, hA⟩ := hrel
    by_cases hlt : k < xs.length
    · obtain ⟨ad, rfl, hcell⟩ := hxc k hlt
      have hcell1 := cell_below hB hcell
      have hfr := hA.free k
      have hco := hA.cell (j := k) (by rw [upto_length]; exact hlt)
      clear hxc hcell hc hf c1 hmk
      go_wp2
      refine still_tail 11 (by kernel_rfl) (by kernel_rfl) ?_
      simp only [List.take_succ_cons, List.take_zero, List.drop_succ_cons, List.drop_zero]
      repeat (first | still_step | still_call (still_of (zq_Mul _ _ _ _ hq)))
      refine wpStill_nil ?_
      go_wp2
      go_roundw
      case rel =>
        refine ⟨k + 1, by omega, by go_num, (hB.setCell (Nat.le_of_lt hlt1) _).drew, ?_, by simpa using hsz, ?_⟩
        · rw [← hcq]; exact cell_far (Nat.ne_of_lt hlt1)
        · rw [← upto_set]; exact (hA.set _ (by rw [upto_length]; exact hlt)).drew
      case measure => simp [intOf]; omega
    · obtain rfl : k = xs.length := by omega
      go_wp2
      go_ret2
      rw [upto_all, map_ofF (· * (z % q) % q)] at hA
      exact ⟨_, rfl, hB, _, xs.length, Nat.le_of_lt hlt1, by simp, by simp, by omega, hA⟩
end Go.Proofs.YtmobicccdmfnaaaDoor
