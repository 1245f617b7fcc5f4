/- Products of polynomials as they are summed up: term by term. No program in sight. -/
import Derived.Test.YtmobicccdmfnaaaDoorVec
set_option linter.unusedVariables false
set_option linter.unusedSimpArgs false
namespace Go.Proofs.Pl
section
variable (N : Nat) (a b : Nat → Int)
/-- What row i gives place p, and which of its numbers does. -/
def ctm (i p : Nat) : Int := if i ≤ p then a i * b (p - i) else -(a i * b (N + p - i))
def ckk (i p : Nat) : Nat := if i ≤ p then p - i else N + p - i
/-- The sums behind i rows and j numbers of one more. -/
def cs (i j p : Nat) : Int := S i (fun u => ctm N a b u p) + if ckk N i p < j then ctm N a b i p else 0
end

section
variable {N : Nat} {a b : Nat → Int}
theorem cs_null (p : Nat) : cs N a b 0 0 p = 0 := by simp [cs, S_zero]
theorem cs_row {i p : Nat} (hi : i < N) (hp : p < N) : cs N a b i N p = cs N a b (i + 1) 0 p := by
  unfold cs
  have h : ckk N i p < N := by unfold ckk; split <;> omega
  rw [if_pos h, if_neg (by omega), S_succ]; omega
theorem cs_low {i j p : Nat} (h : i + j < N) (hp : p < N) :
    cs N a b i (j + 1) p = if p = i + j then cs N a b i j (i + j) + a i * b j else cs N a b i j p := by
  by_cases hpe : p = i + j
  · subst hpe
    rw [if_pos rfl]
    unfold cs
    have h1 : ckk N i (i + j) = j := by unfold ckk; rw [if_pos (by omega)]; omega
    have h2 : ctm N a b i (i + j) = a i * b j := by unfold ctm; rw [if_pos (by omega)]; congr 2; omega
    rw [h1, h2, if_pos (by omega), if_neg (by omega)]; omega
  · rw [if_neg hpe]
    unfold cs
    have h1 : ckk N i p ≠ j := by unfold ckk; split <;> omega
    by_cases h2 : ckk N i p < j
    · rw [if_pos h2, if_pos (by omega)]
    · rw [if_neg h2, if_neg (by omega)]
theorem cs_high {i j p : Nat} (hi : i < N) (hj : j < N) (h : N ≤ i + j) (hp : p < N) :
    cs N a b i (j + 1) p = if p = i + j - N then cs N a b i j (i + j - N) - a i * b j else cs N a b i j p := by
  by_cases hpe : p = i + j - N
  · subst hpe
    rw [if_pos rfl]
    unfold cs
    have h1 : ckk N i (i + j - N) = j := by unfold ckk; rw [if_neg (by omega)]; omega
    have h2 : ctm N a b i (i + j - N) = -(a i * b j) := by unfold ctm; rw [if_neg (by omega)]; congr 3; omega
    rw [h1, h2, if_pos (by omega), if_neg (by omega)]; omega
  · rw [if_neg hpe]
    unfold cs
    have h1 : ckk N i p ≠ j := by unfold ckk; split <;> omega
    by_cases h2 : ckk N i p < j
    · rw [if_pos h2, if_pos (by omega)]
    · rw [if_neg h2, if_neg (by omega)]

theorem S_bound {M : Int} {n : Nat} {f : Nat → Int} (h : ∀ i, i < n → -M ≤ f i ∧ f i ≤ M) : -(n * M) ≤ S n f ∧ S n f ≤ n * M := by
  induction n with
  | zero => simp [S_zero]
  | succ n ih =>
    have h1 := ih fun i hi => h i (by omega)
    have h2 := h n (by omega)
    rw [S_succ, Int.natCast_succ, Int.add_mul, Int.one_mul]
    omega

theorem ctm_bound {M : Int} (hM : ∀ i j, i < N → j < N → 0 ≤ a i * b j ∧ a i * b j ≤ M) {i p : Nat} (hi : i < N) (hp : p < N) : -M ≤ ctm N a b i p ∧ ctm N a b i p ≤ M := by
  unfold ctm
  split
  · have := hM i (p - i) hi (by omega); omega
  · have := hM i (N + p - i) hi (by omega); omega
theorem cs_bound {M : Int} (hM : ∀ i j, i < N → j < N → 0 ≤ a i * b j ∧ a i * b j ≤ M) {i j p : Nat} (hi : i < N) (hp : p < N) : -(N * M) ≤ cs N a b i j p ∧ cs N a b i j p ≤ N * M := by
  have h0 := hM i p hi hp
  have h1 := S_bound (n := i) (f := fun u => ctm N a b u p) (M := M) fun u hu => ctm_bound hM (by omega) hp
  have h2 := ctm_bound hM hi hp
  have h3 : ((i + 1 : Nat) : Int) * M ≤ N * M := Int.mul_le_mul_of_nonneg_right (by omega) (by omega)
  rw [Int.natCast_succ, Int.add_mul, Int.one_mul] at h3
  unfold cs
  split <;> omega

theorem cs_conv {q n : Int} {x y : List Int} {N : Nat} (hN : n.toNat = N) : (ofF N (cs N (at_ x) (at_ y) N 0)).map (· % q) = convV q n x y := by
  have hl : (ofF N (cs N (at_ x) (at_ y) N 0)).length = N := ofF_length _ _
  rw [← map_ofF, hl]
  unfold convV
  rw [hN]
  refine ofF_congr fun p hp => ?_
  rw [at_ofF _ hp]
  congr 1
  unfold cs C
  rw [if_neg (by omega), Int.add_zero]
  refine S_congr fun u _ => ?_
  unfold ctm
  split
  · rfl
  · omega
end
end Go.Proofs.Pl
