/- Products part by part as they are summed up modulo q: term by term. No program in sight. -/
import Derived.Test.YtmobicccdmfnaaaDoorCvs
set_option linter.unusedVariables false
set_option linter.unusedSimpArgs false
namespace Go.Proofs.Pl
section
variable (q z : Int) (N : Nat) (a b : Nat → Int)
/-- The number that is added for places i and k. -/
def tz (i k : Nat) : Int := if N ≤ i + k then a i * b k % q * z % q else a i * b k % q
/-- The sums behind i rows and j numbers of one more. -/
def ms (i j p : Nat) : Int := (S i (fun u => tz q z N a b u (ckk N u p)) + if ckk N i p < j then tz q z N a b i (ckk N i p) else 0) % q
end

section
variable {q z : Int} {N : Nat} {a b : Nat → Int}
theorem ms_null (p : Nat) : ms q z N a b 0 0 p = 0 := by simp [ms, S_zero]
theorem ms_row {i p : Nat} (hi : i < N) (hp : p < N) : ms q z N a b i N p = ms q z N a b (i + 1) 0 p := by
  unfold ms
  have h : ckk N i p < N := by unfold ckk; split <;> omega
  rw [if_pos h, if_neg (by omega), S_succ, Int.add_zero]
theorem ms_step {i j p : Nat} (hi : i < N) (hj : j < N) (hp : p < N) :
    ms q z N a b i (j + 1) p = if p = (i + j) % N then (ms q z N a b i j ((i + j) % N) + tz q z N a b i j) % q else ms q z N a b i j p := by
  have hm : (i + j) % N = if i + j < N then i + j else i + j - N := by
    split
    · exact Nat.mod_eq_of_lt (by assumption)
    · rw [Nat.mod_eq_sub_mod (by omega)]; exact Nat.mod_eq_of_lt (by omega)
  by_cases hpe : p = (i + j) % N
  · rw [if_pos hpe, ← hpe]
    have h1 : ckk N i p = j := by unfold ckk; rw [hpe, hm]; split <;> split <;> omega
    unfold ms
    rw [h1, if_pos (by omega), if_neg (by omega), Int.add_zero, Int.emod_add_emod]
  · rw [if_neg hpe]
    have h1 : ckk N i p ≠ j := by
      intro h; apply hpe; rw [hm]; unfold ckk at h; revert h; split <;> split <;> omega
    unfold ms
    by_cases h2 : ckk N i p < j
    · rw [if_pos h2, if_pos (by omega)]
    · rw [if_neg h2, if_neg (by omega)]
theorem ms_end {p : Nat} (hp : p < N) : ms q z N a b N 0 p = C N z a b p % q := by
  unfold ms C
  rw [if_neg (by omega), Int.add_zero]
  apply Eqm.emod_eq
  refine Eqm.S fun u hu => ?_
  unfold tz ckk
  by_cases h : u ≤ p
  · rw [if_pos h, if_pos h, if_neg (by omega)]; exact Eqm.mod _ _
  · rw [if_neg h, if_neg h, if_pos (by omega), Int.mul_comm z]
    exact (Eqm.mod _ _).trans ((Eqm.mod _ _).mul (Eqm.refl _ _))
end

/-- Part by part, as a list. -/
theorem times_part {q n g : Int} {x y : List Int} {m k p : Nat} (hm : pl q n = m) (hp : p < m) :
    C (pl q n) (zF q n g ((m * k + p) / pl q n)) (fun i => at_ x ((m * k + p) / pl q n * pl q n + i)) (fun i => at_ y ((m * k + p) / pl q n * pl q n + i)) ((m * k + p) % pl q n)
      = C m (zF q n g k) (fun i => at_ x (k * m + i)) (fun i => at_ y (k * m + i)) p := by
  rw [hm, Nat.mul_add_div (by omega), Nat.div_eq_of_lt hp, Nat.add_zero, Nat.mul_add_mod, Nat.mod_eq_of_lt hp]
theorem ofF_split (a b : Nat) (f : Nat → Int) : ofF (a + b) f = ofF a f ++ ofF b (fun i => f (a + i)) := by
  simp [ofF, List.range_add, List.map_append, Function.comp_def]
end Go.Proofs.Pl
