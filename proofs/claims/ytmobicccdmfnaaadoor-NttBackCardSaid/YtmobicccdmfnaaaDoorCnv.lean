/- Products of polynomials modulo X ^ N - x, and of their remainders: a product's remainder is the remainders' product. No program in sight. -/
import Derived.Test.YtmobicccdmfnaaaDoorNtt
set_option linter.unusedVariables false
set_option linter.unusedSimpArgs false
namespace Go.Proofs.Pl

/-- The number n of a product modulo X ^ N - x. -/
def C (N : Nat) (x : Int) (a b : Nat → Int) (n : Nat) : Int := S N fun i => if i ≤ n then a i * b (n - i) else x * (a i * b (N + n - i))

theorem shift {q y x : Int} {n : Nat} (hy : Eqm q (y ^ n) x) (c : Nat → Int) (v : Nat) (hv : v ≤ n) :
    Eqm q (S n fun k => y ^ k * if v ≤ k then c (k - v) else x * c (n + k - v)) (y ^ v * S n fun t => y ^ t * c t) := by
  obtain ⟨w, rfl⟩ : ∃ w, n = w + v := ⟨n - v, by omega⟩
  rw [S_split w v fun t => y ^ t * c t, Nat.add_comm w v, S_split v w, Int.mul_add, ← S_mul, ← S_mul, Int.add_comm]
  refine Eqm.add (Eqm.of_eq (S_congr fun t _ => ?_)) (Eqm.S fun k hk => ?_)
  · rw [if_pos (by omega), Int.pow_add, Nat.add_sub_cancel_left]; grind
  · rw [if_neg (by omega)]
    have e : v + w + k - v = w + k := by omega
    rw [e]
    have e2 : y ^ v * (y ^ (w + k) * c (w + k)) = y ^ k * (y ^ (w + v) * c (w + k)) := by
      rw [Int.pow_add, Int.pow_add]; grind
    rw [e2]
    exact (Eqm.refl _ _).mul (hy.symm.mul (Eqm.refl _ _))

theorem E_C {q x y : Int} {n M : Nat} (hy : Eqm q (y ^ n) x) (a b : Nat → Int) (j : Nat) (hj : j < M) :
    Eqm q (E (C (n * M) x a b) n M y j) (C M y (E a n M y) (E b n M y) j) := by
  have h1 : E (C (n * M) x a b) n M y j = S n fun u => S M fun r => a (u * M + r) * S n fun k => y ^ k * if u * M + r ≤ k * M + j then b (k * M + j - (u * M + r)) else x * b (n * M + (k * M + j) - (u * M + r)) := by
    unfold E C
    have e : ∀ k, (S (n * M) fun i => if i ≤ k * M + j then a i * b (k * M + j - i) else x * (a i * b (n * M + (k * M + j) - i))) * y ^ k
        = S (n * M) fun i => a i * (y ^ k * if i ≤ k * M + j then b (k * M + j - i) else x * b (n * M + (k * M + j) - i)) := by
      intro k
      rw [← S_mulr]
      refine S_congr fun i _ => ?_
      split <;> grind
    rw [S_congr fun k _ => e k, S_swap]
    rw [S_rows]
    refine S_congr fun u _ => S_congr fun r _ => ?_
    rw [← S_mul]
  rw [h1, S_swap]
  unfold C
  refine Eqm.S fun r hr => ?_
  by_cases h : r ≤ j
  · rw [if_pos h]
    have h2 : ∀ u, u < n → Eqm q (a (u * M + r) * S n fun k => y ^ k * if u * M + r ≤ k * M + j then b (k * M + j - (u * M + r)) else x * b (n * M + (k * M + j) - (u * M + r)))
        (a (u * M + r) * (y ^ u * S n fun t => y ^ t * b (t * M + (j - r)))) := by
      intro u hu
      refine (Eqm.refl _ _).mul (Eqm.trans (Eqm.of_eq (S_congr fun k hk => ?_)) (shift hy (fun t => b (t * M + (j - r))) u (by omega)))
      by_cases huk : u ≤ k
      · obtain ⟨z, rfl⟩ : ∃ z, k = z + u := ⟨k - u, by omega⟩
        have e1 : (z + u) * M = z * M + u * M := Nat.add_mul _ _ _
        rw [if_pos (by omega), if_pos huk]
        congr 2
        rw [e1, Nat.add_sub_cancel]; omega
      · have e1 : u * M = (u - k) * M + k * M := by rw [← Nat.add_mul]; congr 1; omega
        have e2 : M ≤ (u - k) * M := Nat.le_mul_of_pos_left _ (by omega)
        have e3 : n * M = (n - u) * M + u * M := by rw [← Nat.add_mul]; congr 1; omega
        have e4 : (n + k - u) * M = (n - u) * M + k * M := by rw [← Nat.add_mul]; congr 1; omega
        rw [if_neg (by omega), if_neg huk]
        congr 3
        omega
    refine (Eqm.S h2).trans (Eqm.of_eq ?_)
    unfold E
    rw [S_congr (g := fun u => a (u * M + r) * y ^ u * S n fun t => y ^ t * b (t * M + (j - r))) (fun u _ => (Int.mul_assoc _ _ _).symm), S_mulr]
    congr 1
    exact S_congr fun t _ => Int.mul_comm _ _
  · rw [if_neg h]
    have h2 : ∀ u, u < n → Eqm q (a (u * M + r) * S n fun k => y ^ k * if u * M + r ≤ k * M + j then b (k * M + j - (u * M + r)) else x * b (n * M + (k * M + j) - (u * M + r)))
        (a (u * M + r) * (y ^ (u + 1) * S n fun t => y ^ t * b (t * M + (M + j - r)))) := by
      intro u hu
      refine (Eqm.refl _ _).mul (Eqm.trans (Eqm.of_eq (S_congr fun k hk => ?_)) (shift hy (fun t => b (t * M + (M + j - r))) (u + 1) (by omega)))
      by_cases huk : u + 1 ≤ k
      · obtain ⟨z, rfl⟩ : ∃ z, k = z + (u + 1) := ⟨k - (u + 1), by omega⟩
        have e1 : (z + (u + 1)) * M = z * M + u * M + M := by rw [Nat.add_mul, Nat.add_mul, Nat.one_mul]; omega
        rw [if_pos (by omega), if_pos huk]
        congr 2
        rw [e1, Nat.add_sub_cancel]; omega
      · have e1 : u * M = (u - k) * M + k * M := by rw [← Nat.add_mul]; congr 1; omega
        have e3 : n * M = (n - (u + 1)) * M + u * M + M := by
          rw [show n * M = ((n - (u + 1)) + (u + 1)) * M from by congr 1; omega, Nat.add_mul, Nat.add_mul, Nat.one_mul]; omega
        have e4 : (n + k - (u + 1)) * M = (n - (u + 1)) * M + k * M := by rw [← Nat.add_mul]; congr 1; omega
        rw [if_neg (by omega), if_neg huk]
        congr 3
        omega
    refine (Eqm.S h2).trans (Eqm.of_eq ?_)
    unfold E
    rw [S_congr (g := fun u => a (u * M + r) * y ^ u * (y * S n fun t => y ^ t * b (t * M + (M + j - r)))) (fun u _ => by rw [Int.pow_succ]; grind), S_mulr]
    have e : (S n fun t => y ^ t * b (t * M + (M + j - r))) = S n fun k => b (k * M + (M + j - r)) * y ^ k := S_congr fun t _ => Int.mul_comm _ _
    rw [e]; grind
end Go.Proofs.Pl
