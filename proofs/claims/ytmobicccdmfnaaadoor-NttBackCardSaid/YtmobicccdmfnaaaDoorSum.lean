/- Finite sums of whole numbers, with what is needed of them to change their order. Plain Lean, no program in sight. -/
set_option linter.unusedVariables false
set_option linter.unusedSimpArgs false
namespace Go.Proofs.Pl

/-- The sum of the first n values. -/
def S : Nat → (Nat → Int) → Int
  | 0, _ => 0
  | n + 1, f => S n f + f n

theorem S_zero (f : Nat → Int) : S 0 f = 0 := rfl
theorem S_succ (n : Nat) (f : Nat → Int) : S (n + 1) f = S n f + f n := rfl

theorem S_congr {n : Nat} {f g : Nat → Int} (h : ∀ i, i < n → f i = g i) : S n f = S n g := by
  induction n with
  | zero => rfl
  | succ n ih => rw [S_succ, S_succ, ih (fun i hi => h i (by omega)), h n (by omega)]

theorem S_add (n : Nat) (f g : Nat → Int) : S n (fun i => f i + g i) = S n f + S n g := by
  induction n with
  | zero => rfl
  | succ n ih => simp only [S_succ, ih]; omega

theorem S_sub (n : Nat) (f g : Nat → Int) : S n (fun i => f i - g i) = S n f - S n g := by
  induction n with
  | zero => rfl
  | succ n ih => simp only [S_succ, ih]; omega

theorem S_mul (n : Nat) (c : Int) (f : Nat → Int) : S n (fun i => c * f i) = c * S n f := by
  induction n with
  | zero => simp [S_zero]
  | succ n ih => simp only [S_succ, ih, Int.mul_add]

theorem S_mulr (n : Nat) (c : Int) (f : Nat → Int) : S n (fun i => f i * c) = S n f * c := by
  induction n with
  | zero => simp [S_zero]
  | succ n ih => simp only [S_succ, ih, Int.add_mul]

theorem S_null (n : Nat) : S n (fun _ => 0) = 0 := by
  induction n with
  | zero => rfl
  | succ n ih => simp only [S_succ, ih]; rfl

theorem S_null' {n : Nat} {f : Nat → Int} (h : ∀ i, i < n → f i = 0) : S n f = 0 := by
  rw [S_congr h, S_null]

theorem S_swap (n m : Nat) (f : Nat → Nat → Int) : S n (fun i => S m (fun j => f i j)) = S m (fun j => S n (fun i => f i j)) := by
  induction n with
  | zero => simp only [S_zero, S_null]
  | succ n ih => simp only [S_succ, ih, S_add]

/-- Of a sum in which one place alone counts. -/
theorem S_one {n c : Nat} (f : Nat → Int) (hc : c < n) : S n (fun i => if i = c then f i else 0) = f c := by
  induction n with
  | zero => omega
  | succ n ih =>
    rw [S_succ]
    by_cases h : n = c
    · subst h
      rw [S_null' (fun i hi => if_neg (by omega)), if_pos rfl]; omega
    · rw [ih (by omega), if_neg h]; omega

theorem S_split (n m : Nat) (f : Nat → Int) : S (n + m) f = S n f + S m (fun i => f (n + i)) := by
  induction m with
  | zero => simp [S_zero]
  | succ m ih => rw [← Nat.add_assoc, S_succ, S_succ, ih]; omega

/-- A sum over n times m places, row by row. -/
theorem S_rows (n m : Nat) (f : Nat → Int) : S (n * m) f = S n (fun k => S m (fun j => f (k * m + j))) := by
  induction n with
  | zero => simp [S_zero]
  | succ n ih => rw [Nat.succ_mul, S_split, ih, S_succ]

/-- Congruent. -/
def Eqm (q a b : Int) : Prop := (a - b) % q = 0

theorem Eqm.refl (q a : Int) : Eqm q a a := by simp [Eqm]
theorem Eqm.of_eq {q a b : Int} (h : a = b) : Eqm q a b := h ▸ Eqm.refl q a
theorem Eqm.symm {q a b : Int} (h : Eqm q a b) : Eqm q b a := by
  unfold Eqm at *
  rw [← Int.neg_sub, Int.emod_eq_zero_of_dvd]; exact Int.dvd_neg.2 (Int.dvd_of_emod_eq_zero h)
theorem Eqm.trans {q a b c : Int} (h : Eqm q a b) (k : Eqm q b c) : Eqm q a c := by
  unfold Eqm at *
  have e : a - c = (a - b) + (b - c) := by omega
  rw [e, Int.emod_eq_zero_of_dvd]; exact Int.dvd_add (Int.dvd_of_emod_eq_zero h) (Int.dvd_of_emod_eq_zero k)
theorem Eqm.add {q a b c d : Int} (h : Eqm q a b) (k : Eqm q c d) : Eqm q (a + c) (b + d) := by
  unfold Eqm at *
  have e : a + c - (b + d) = (a - b) + (c - d) := by omega
  rw [e, Int.emod_eq_zero_of_dvd]; exact Int.dvd_add (Int.dvd_of_emod_eq_zero h) (Int.dvd_of_emod_eq_zero k)
theorem Eqm.sub {q a b c d : Int} (h : Eqm q a b) (k : Eqm q c d) : Eqm q (a - c) (b - d) := by
  unfold Eqm at *
  have e : a - c - (b - d) = (a - b) - (c - d) := by omega
  rw [e, Int.emod_eq_zero_of_dvd]; exact Int.dvd_sub (Int.dvd_of_emod_eq_zero h) (Int.dvd_of_emod_eq_zero k)
theorem Eqm.mul {q a b c d : Int} (h : Eqm q a b) (k : Eqm q c d) : Eqm q (a * c) (b * d) := by
  unfold Eqm at *
  have e : a * c - b * d = (a - b) * c + b * (c - d) := by grind
  rw [e, Int.emod_eq_zero_of_dvd]
  exact Int.dvd_add (Int.dvd_trans (Int.dvd_of_emod_eq_zero h) (Int.dvd_mul_right _ _)) (Int.dvd_trans (Int.dvd_of_emod_eq_zero k) (Int.dvd_mul_left _ _))
theorem Eqm.neg {q a b : Int} (h : Eqm q a b) : Eqm q (-a) (-b) := by
  have := (Eqm.refl q 0).sub h
  simpa using this
theorem Eqm.mod (q a : Int) : Eqm q (a % q) a := by
  unfold Eqm
  rw [Int.sub_emod, Int.emod_emod_of_dvd _ (Int.dvd_refl q)]; simp
theorem Eqm.emod_eq {q a b : Int} (h : Eqm q a b) : a % q = b % q :=
  Int.emod_eq_emod_iff_emod_sub_eq_zero.2 h
theorem Eqm.of_emod {q a b : Int} (h : a % q = b % q) : Eqm q a b := Int.emod_eq_emod_iff_emod_sub_eq_zero.1 h
theorem Eqm.eq_of {q a b : Int} (h : Eqm q a b) (ha : 0 ≤ a) (ha' : a < q) (hb : 0 ≤ b) (hb' : b < q) : a = b := by
  have := h.emod_eq
  rwa [Int.emod_eq_of_lt ha ha', Int.emod_eq_of_lt hb hb'] at this
theorem Eqm.pow {q a b : Int} (h : Eqm q a b) (n : Nat) : Eqm q (a ^ n) (b ^ n) := by
  induction n with
  | zero => simp only [Int.pow_zero]; exact Eqm.refl _ _
  | succ n ih => rw [Int.pow_succ, Int.pow_succ]; exact ih.mul h
theorem Eqm.S {q : Int} {n : Nat} {f g : Nat → Int} (h : ∀ i, i < n → Eqm q (f i) (g i)) : Eqm q (S n f) (S n g) := by
  induction n with
  | zero => exact Eqm.refl _ _
  | succ n ih => rw [S_succ, S_succ]; exact (ih fun i hi => h i (by omega)).add (h n (by omega))
end Go.Proofs.Pl
