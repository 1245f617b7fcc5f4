/- A layer of a transform as it is made: place by place. No program in sight. -/
import Derived.Test.YtmobicccdmfnaaaDoorVec
set_option linter.unusedVariables false
set_option linter.unusedSimpArgs false
namespace Go.Proofs.Pl

/-- What is made so far of a part that begins at s, its places up to i. -/
def mid (old new : Nat → Int) (h s i p : Nat) : Int := if p < i ∨ (s + h ≤ p ∧ p < i + h) then new p else old p

section
variable {old new : Nat → Int} {N h s i : Nat}
theorem mid_left (h0 : i < s + h) : mid old new h s i i = old i := by
  unfold mid; rw [if_neg (by omega)]
theorem mid_right (h0 : 0 < h) : mid old new h s i (i + h) = old (i + h) := by
  unfold mid; rw [if_neg (by omega)]
theorem mid_step (hs : s ≤ i) (hi : i < s + h) {v1 v2 : Int} (h1 : v1 = new i) (h2 : v2 = new (i + h)) :
    ((ofF N (mid old new h s i)).set i v1).set (i + h) v2 = ofF N (mid old new h s (i + 1)) := by
  rw [set_ofF, set_ofF]
  refine ofF_congr fun p _ => ?_
  unfold mid
  by_cases a : p = i + h
  · rw [if_pos a, if_pos (by omega), h2, a]
  · rw [if_neg a]
    by_cases b : p = i
    · rw [if_pos b, if_pos (by omega), h1, b]
    · rw [if_neg b]
      by_cases c : p < i ∨ (s + h ≤ p ∧ p < i + h)
      · rw [if_pos c, if_pos (by omega)]
      · rw [if_neg c, if_neg (by omega)]
theorem mid_begin : ofF N (mid old new h 0 0) = ofF N old := ofF_congr fun p _ => by unfold mid; rw [if_neg (by omega)]
theorem mid_part : ofF N (mid old new h s (s + h)) = ofF N (mid old new h (s + 2 * h) (s + 2 * h)) := ofF_congr fun p _ => by
  unfold mid
  by_cases c : p < s + 2 * h
  · rw [if_pos (by omega), if_pos (by omega)]
  · rw [if_neg (by omega), if_neg (by omega)]
theorem mid_end (hs : s = N) : ofF N (mid old new h s s) = ofF N new := ofF_congr fun p hp => by unfold mid; rw [if_pos (by omega)]
end

theorem half_eq {n : Int} {L l : Nat} (hn : n = 2 ^ L) (hl : l < L) : n / 2 ^ (l + 1) = ((2 ^ (L - (l + 1)) : Nat) : Int) := by
  have e : (2 : Int) ^ L = 2 ^ (L - (l + 1)) * 2 ^ (l + 1) := by rw [← Int.pow_add]; congr 1; omega
  rw [hn, e, Int.mul_ediv_cancel _ (Int.ne_of_gt (Int.pow_pos (by omega)))]; simp
theorem parts_eq {L l : Nat} (hl : l < L) : 2 ^ L = 2 ^ l * (2 * 2 ^ (L - (l + 1))) := by
  rw [← Nat.pow_succ', ← Nat.pow_add]; congr 1; omega

section
variable {q : Int} {by_ : Nat → Int} {f : Nat → Int} {h b i : Nat}
theorem place (hs : 2 * h * b ≤ i) (hi : i < 2 * h * b + h) : i % (2 * h) = i - 2 * h * b ∧ i / (2 * h) = b ∧ (i + h) % (2 * h) = i - 2 * h * b + h ∧ (i + h) / (2 * h) = b := by
  obtain ⟨r, rfl⟩ : ∃ r, i = 2 * h * b + r := ⟨i - 2 * h * b, by omega⟩
  have hr : r < h := by omega
  refine ⟨?_, ?_, ?_, ?_⟩
  · rw [Nat.mul_add_mod, Nat.mod_eq_of_lt (by omega)]; omega
  · rw [Nat.mul_add_div (by omega), Nat.div_eq_of_lt (by omega), Nat.add_zero]
  · rw [Nat.add_assoc, Nat.mul_add_mod, Nat.mod_eq_of_lt (by omega)]; omega
  · rw [Nat.add_assoc, Nat.mul_add_div (by omega), Nat.div_eq_of_lt (by omega), Nat.add_zero]
theorem toF_left (hs : 2 * h * b ≤ i) (hi : i < 2 * h * b + h) : (f i + by_ b * f (i + h)) % q = toF q by_ h f i := by
  obtain ⟨h1, h2, _, _⟩ := place hs hi
  unfold toF
  rw [h1, h2, if_pos (by omega)]
theorem toF_right (hs : 2 * h * b ≤ i) (hi : i < 2 * h * b + h) : (f i - by_ b * f (i + h)) % q = toF q by_ h f (i + h) := by
  obtain ⟨_, _, h3, h4⟩ := place hs hi
  unfold toF
  rw [h3, h4, if_neg (by omega), Nat.add_sub_cancel]
theorem fromF_left {iv : Nat → Int} (hs : 2 * h * b ≤ i) (hi : i < 2 * h * b + h) : (f i + f (i + h)) % q = fromF q iv h f i := by
  obtain ⟨h1, _, _, _⟩ := place hs hi
  unfold fromF
  rw [h1, if_pos (by omega)]
theorem fromF_right {iv : Nat → Int} (hs : 2 * h * b ≤ i) (hi : i < 2 * h * b + h) : (iv b * ((f i - f (i + h)) % q)) % q = fromF q iv h f (i + h) := by
  obtain ⟨_, _, h3, h4⟩ := place hs hi
  unfold fromF
  rw [h3, h4, if_neg (by omega), Nat.add_sub_cancel]
  exact ((Eqm.refl q (iv b)).mul (Eqm.mod q _)).emod_eq
end
end Go.Proofs.Pl
