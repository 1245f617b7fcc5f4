/- Transforms in plain Lean: layer by layer, there and back; what a layer comes to; products. No program in sight. -/
import Derived.Test.YtmobicccdmfnaaaDoorSum
set_option linter.unusedVariables false
set_option linter.unusedSimpArgs false
namespace Go.Proofs.Pl

/-- The lowest d bits of a number, turned round. -/
def rev : Nat → Nat → Nat
  | 0, _ => 0
  | d + 1, i => (i % 2) * 2 ^ d + rev d (i / 2)

theorem rev_two (l b : Nat) : rev (l + 1) (2 * b) = rev l b := by
  have h1 : 2 * b % 2 = 0 := by omega
  have h2 : 2 * b / 2 = b := by omega
  simp only [rev, h1, h2, Nat.zero_mul, Nat.zero_add]

theorem rev_two1 (l b : Nat) : rev (l + 1) (2 * b + 1) = 2 ^ l + rev l b := by
  have h1 : (2 * b + 1) % 2 = 1 := by omega
  have h2 : (2 * b + 1) / 2 = b := by omega
  simp only [rev, h1, h2, Nat.one_mul]

theorem rev_null (d : Nat) : rev d 0 = 0 := by
  induction d with
  | zero => rfl
  | succ d ih => simp [rev, ih]

theorem rev_lt (d i : Nat) : rev d i < 2 ^ d := by
  induction d generalizing i with
  | zero => simp [rev]
  | succ d ih =>
    have := ih (i / 2)
    have h2 : i % 2 < 2 := Nat.mod_lt _ (by omega)
    rw [rev, Nat.pow_succ]
    rcases (by omega : i % 2 = 0 ∨ i % 2 = 1) with h | h <;> rw [h] <;> omega

theorem rev_high (l : Nat) : ∀ k b : Nat, b < 2 ^ l → rev (l + 1 + k) (2 ^ l + b) = 2 ^ k * (2 * rev l b + 1) := by
  induction l with
  | zero =>
    intro k b hb
    have hb0 : b = 0 := by simp at hb; exact hb
    subst hb0
    rw [Nat.zero_add, Nat.add_comm 1 k]
    simp [rev, rev_null]
  | succ l ih =>
    intro k b hb
    have hp : 2 ^ (l + 1) = 2 * 2 ^ l := by rw [Nat.pow_succ]; omega
    have e : l + 1 + 1 + k = (l + 1 + k) + 1 := by omega
    have h1 : (2 ^ (l + 1) + b) % 2 = b % 2 := by omega
    have h2 : (2 ^ (l + 1) + b) / 2 = 2 ^ l + b / 2 := by omega
    rw [e, rev, h1, h2, ih k (b / 2) (by omega), rev]
    have e2 : 2 ^ (l + 1 + k) = 2 ^ k * (2 * 2 ^ l) := by rw [← hp, ← Nat.pow_add, Nat.add_comm]
    rw [e2]
    generalize 2 ^ k = x
    generalize 2 ^ l = y
    generalize b % 2 = z
    generalize rev l (b / 2) = t
    grind

/-- One layer there: parts of h2 = 2 h numbers, part b by the number 'by_ b'. -/
def toF (q : Int) (by_ : Nat → Int) (h : Nat) (f : Nat → Int) (p : Nat) : Int :=
  if p % (2 * h) < h then (f p + by_ (p / (2 * h)) * f (p + h)) % q else (f (p - h) - by_ (p / (2 * h)) * f p) % q

/-- One layer back. -/
def fromF (q : Int) (iv : Nat → Int) (h : Nat) (f : Nat → Int) (p : Nat) : Int :=
  if p % (2 * h) < h then (f p + f (p + h)) % q else (iv (p / (2 * h)) * (f (p - h) - f p)) % q

/-- The layers there: 0, 1, .. of vectors of 2 ^ L numbers. -/
def toL (q : Int) (by_ : Nat → Nat → Int) (L : Nat) : Nat → (Nat → Int) → Nat → Int
  | 0, f => f
  | l + 1, f => toF q (by_ l) (2 ^ (L - (l + 1))) (toL q by_ L l f)

/-- The layers back: the last one first. -/
def fromL (q : Int) (iv : Nat → Nat → Int) (L : Nat) : Nat → (Nat → Int) → Nat → Int
  | 0, f => f
  | l + 1, f => fromL q iv L l (fromF q (iv l) (2 ^ (L - (l + 1))) f)

section
variable {q : Int} {N : Nat}

/-- As vectors of N numbers, modulo q. -/
def Vm (q : Int) (N : Nat) (f g : Nat → Int) : Prop := ∀ p, p < N → Eqm q (f p) (g p)

theorem Vm.refl (f : Nat → Int) : Vm q N f f := fun _ _ => Eqm.refl _ _
theorem Vm.symm {f g : Nat → Int} (h : Vm q N f g) : Vm q N g f := fun p hp => (h p hp).symm
theorem Vm.trans {f g k : Nat → Int} (h : Vm q N f g) (h' : Vm q N g k) : Vm q N f k := fun p hp => (h p hp).trans (h' p hp)

theorem mod_add_half {h p : Nat} (hp : p % (2 * h) < h) : (p + h) % (2 * h) = p % (2 * h) + h := by
  rw [Nat.add_mod, Nat.mod_eq_of_lt (a := h) (by omega), Nat.mod_eq_of_lt (by omega)]
theorem div_add_half {h p : Nat} (hp : p % (2 * h) < h) : (p + h) / (2 * h) = p / (2 * h) := by
  have h1 := Nat.div_add_mod p (2 * h)
  rw [← h1]
  generalize p / (2 * h) = b at *
  generalize p % (2 * h) = r at *
  rw [Nat.add_assoc, Nat.mul_add_div (by omega), Nat.mul_add_div (by omega), Nat.div_eq_of_lt (by omega), Nat.div_eq_of_lt (by omega)]
theorem sub_half {h p : Nat} (h0 : 0 < h) (hp : ¬ p % (2 * h) < h) : h ≤ p ∧ (p - h) % (2 * h) = p % (2 * h) - h ∧ (p - h) / (2 * h) = p / (2 * h) := by
  have h1 := Nat.div_add_mod p (2 * h)
  have h2 : p % (2 * h) < 2 * h := Nat.mod_lt _ (by omega)
  have h3 : p % (2 * h) ≤ p := Nat.mod_le _ _
  refine ⟨by omega, ?_, ?_⟩
  · have e : p - h = 2 * h * (p / (2 * h)) + (p % (2 * h) - h) := by omega
    rw [e, Nat.mul_add_mod, Nat.mod_eq_of_lt (by omega)]
  · have e : p - h = 2 * h * (p / (2 * h)) + (p % (2 * h) - h) := by omega
    rw [e, Nat.mul_add_div (by omega), Nat.div_eq_of_lt (show p % (2 * h) - h < 2 * h by omega), Nat.add_zero]

/-- A place in the left half has its fellow within. -/
theorem fellow {h N p : Nat} (hN : ∃ k, N = k * (2 * h)) (hp : p < N) (hl : p % (2 * h) < h) : p + h < N := by
  obtain ⟨k, rfl⟩ := hN
  have h1 := Nat.div_add_mod p (2 * h)
  have h2 : p / (2 * h) < k := Nat.div_lt_of_lt_mul (by rw [Nat.mul_comm]; exact hp)
  have h3 : 2 * h * (p / (2 * h) + 1) ≤ 2 * h * k := Nat.mul_le_mul_left _ h2
  rw [Nat.mul_add, Nat.mul_one, Nat.mul_comm (2 * h) k] at h3
  omega

theorem toF_congr {by_ : Nat → Int} {h : Nat} {f g : Nat → Int} (h0 : 0 < h) (hN : ∃ k, N = k * (2 * h)) (hfg : Vm q N f g) : Vm q N (toF q by_ h f) (toF q by_ h g) := by
  intro p hp
  unfold toF
  by_cases hl : p % (2 * h) < h
  · rw [if_pos hl, if_pos hl]
    exact ((Eqm.mod _ _).trans ((hfg p hp).add ((Eqm.refl _ _).mul (hfg _ (fellow hN hp hl))))).trans (Eqm.mod _ _).symm
  · rw [if_neg hl, if_neg hl]
    exact ((Eqm.mod _ _).trans ((hfg _ (by omega)).sub ((Eqm.refl _ _).mul (hfg p hp)))).trans (Eqm.mod _ _).symm

theorem fromF_congr {iv : Nat → Int} {h : Nat} {f g : Nat → Int} (h0 : 0 < h) (hN : ∃ k, N = k * (2 * h)) (hfg : Vm q N f g) : Vm q N (fromF q iv h f) (fromF q iv h g) := by
  intro p hp
  unfold fromF
  by_cases hl : p % (2 * h) < h
  · rw [if_pos hl, if_pos hl]
    exact ((Eqm.mod _ _).trans ((hfg p hp).add (hfg _ (fellow hN hp hl)))).trans (Eqm.mod _ _).symm
  · rw [if_neg hl, if_neg hl]
    exact ((Eqm.mod _ _).trans ((Eqm.refl _ _).mul ((hfg _ (by omega)).sub (hfg p hp)))).trans (Eqm.mod _ _).symm

theorem toF_scale {by_ : Nat → Int} {h : Nat} (c : Int) (f : Nat → Int) : Vm q N (toF q by_ h fun p => c * f p) (fun p => c * toF q by_ h f p) := by
  intro p hp
  show Eqm q _ (c * _)
  unfold toF
  by_cases hl : p % (2 * h) < h
  · simp only [if_pos hl]
    refine (Eqm.mod _ _).trans (Eqm.trans (Eqm.of_eq ?_) ((Eqm.refl q c).mul (Eqm.mod q _).symm))
    grind
  · simp only [if_neg hl]
    refine (Eqm.mod _ _).trans (Eqm.trans (Eqm.of_eq ?_) ((Eqm.refl q c).mul (Eqm.mod q _).symm))
    grind

theorem fromF_scale {iv : Nat → Int} {h : Nat} (c : Int) (f : Nat → Int) : Vm q N (fromF q iv h fun p => c * f p) (fun p => c * fromF q iv h f p) := by
  intro p hp
  show Eqm q _ (c * _)
  unfold fromF
  by_cases hl : p % (2 * h) < h
  · simp only [if_pos hl]
    refine (Eqm.mod _ _).trans (Eqm.trans (Eqm.of_eq ?_) ((Eqm.refl q c).mul (Eqm.mod q _).symm))
    grind
  · simp only [if_neg hl]
    refine (Eqm.mod _ _).trans (Eqm.trans (Eqm.of_eq ?_) ((Eqm.refl q c).mul (Eqm.mod q _).symm))
    grind

/-- A layer there and back is twice what it was. -/
theorem fromF_toF {by_ iv : Nat → Int} {h : Nat} {f : Nat → Int} (h0 : 0 < h) (hN : ∃ k, N = k * (2 * h)) (hi : ∀ b, b < N / (2 * h) → Eqm q (iv b * by_ b) 1) :
    Vm q N (fromF q iv h (toF q by_ h f)) (fun p => 2 * f p) := by
  intro p hp
  have hb : p / (2 * h) < N / (2 * h) := by
    obtain ⟨k, rfl⟩ := hN
    rw [Nat.mul_div_cancel _ (by omega)]
    exact Nat.div_lt_of_lt_mul (by rw [Nat.mul_comm]; exact hp)
  unfold fromF
  by_cases hl : p % (2 * h) < h
  · rw [if_pos hl]
    refine (Eqm.mod _ _).trans ?_
    unfold toF
    rw [if_pos hl, mod_add_half hl, if_neg (by omega), div_add_half hl, Nat.add_sub_cancel]
    refine ((Eqm.mod _ _).add (Eqm.mod _ _)).trans (Eqm.of_eq ?_)
    show _ = 2 * f p
    omega
  · rw [if_neg hl]
    refine (Eqm.mod _ _).trans ?_
    obtain ⟨h1, h2, h3⟩ := sub_half h0 hl
    unfold toF
    have h4 : p % (2 * h) < 2 * h := Nat.mod_lt _ (by omega)
    rw [if_neg hl, h2, if_pos (by omega), h3, Nat.sub_add_cancel h1]
    refine ((Eqm.refl _ _).mul ((Eqm.mod _ _).sub (Eqm.mod _ _))).trans ?_
    have e : iv (p / (2 * h)) * (f (p - h) + by_ (p / (2 * h)) * f p - (f (p - h) - by_ (p / (2 * h)) * f p)) = iv (p / (2 * h)) * by_ (p / (2 * h)) * (2 * f p) := by grind
    rw [e]
    exact ((hi _ hb).mul (Eqm.refl _ _)).trans (Eqm.of_eq (Int.one_mul _))

/-- A layer back and there is twice what it was. -/
theorem toF_fromF {by_ iv : Nat → Int} {h : Nat} {f : Nat → Int} (h0 : 0 < h) (hN : ∃ k, N = k * (2 * h)) (hi : ∀ b, b < N / (2 * h) → Eqm q (iv b * by_ b) 1) :
    Vm q N (toF q by_ h (fromF q iv h f)) (fun p => 2 * f p) := by
  intro p hp
  have hb : p / (2 * h) < N / (2 * h) := by
    obtain ⟨k, rfl⟩ := hN
    rw [Nat.mul_div_cancel _ (by omega)]
    exact Nat.div_lt_of_lt_mul (by rw [Nat.mul_comm]; exact hp)
  unfold toF
  by_cases hl : p % (2 * h) < h
  · rw [if_pos hl]
    refine (Eqm.mod _ _).trans ?_
    unfold fromF
    rw [if_pos hl, mod_add_half hl, if_neg (by omega), div_add_half hl, Nat.add_sub_cancel]
    refine ((Eqm.mod _ _).add ((Eqm.refl _ _).mul (Eqm.mod _ _))).trans ?_
    have e : by_ (p / (2 * h)) * (iv (p / (2 * h)) * (f p - f (p + h))) = iv (p / (2 * h)) * by_ (p / (2 * h)) * (f p - f (p + h)) := by grind
    rw [e]
    refine ((Eqm.refl _ _).add ((hi _ hb).mul (Eqm.refl _ _))).trans (Eqm.of_eq ?_)
    show _ = 2 * f p
    omega
  · rw [if_neg hl]
    refine (Eqm.mod _ _).trans ?_
    obtain ⟨h1, h2, h3⟩ := sub_half h0 hl
    unfold fromF
    have h4 : p % (2 * h) < 2 * h := Nat.mod_lt _ (by omega)
    rw [if_neg hl, h2, if_pos (by omega), Nat.sub_add_cancel h1]
    refine ((Eqm.mod _ _).sub ((Eqm.refl _ _).mul (Eqm.mod _ _))).trans ?_
    have e : by_ (p / (2 * h)) * (iv (p / (2 * h)) * (f (p - h) - f p)) = iv (p / (2 * h)) * by_ (p / (2 * h)) * (f (p - h) - f p) := by grind
    rw [e]
    refine ((Eqm.refl _ _).sub ((hi _ hb).mul (Eqm.refl _ _))).trans (Eqm.of_eq ?_)
    show _ = 2 * f p
    omega

theorem halves {L l : Nat} (hl : l < L) : (∃ k, 2 ^ L = k * (2 * 2 ^ (L - (l + 1)))) ∧ 0 < 2 ^ (L - (l + 1)) ∧ 2 ^ L / (2 * 2 ^ (L - (l + 1))) = 2 ^ l ∧ 2 * 2 ^ (L - (l + 1)) = 2 ^ (L - l) := by
  have e : 2 * 2 ^ (L - (l + 1)) = 2 ^ (L - l) := by
    rw [show L - l = (L - (l + 1)) + 1 from by omega, Nat.pow_succ]; omega
  have e2 : 2 ^ L = 2 ^ l * 2 ^ (L - l) := by rw [← Nat.pow_add]; congr 1; omega
  refine ⟨⟨2 ^ l, by rw [e]; exact e2⟩, Nat.pow_pos (by omega), ?_, e⟩
  rw [e, e2, Nat.mul_div_cancel _ (Nat.pow_pos (by omega))]

theorem toL_congr {by_ : Nat → Nat → Int} {L : Nat} : ∀ {l : Nat} {f g : Nat → Int}, l ≤ L → Vm q (2 ^ L) f g → Vm q (2 ^ L) (toL q by_ L l f) (toL q by_ L l g) := by
  intro l
  induction l with
  | zero => intro f g _ h; exact h
  | succ l ih => intro f g hl h; exact toF_congr (halves (by omega)).2.1 (halves (by omega)).1 (ih (by omega) h)

theorem fromL_congr {iv : Nat → Nat → Int} {L : Nat} : ∀ {l : Nat} {f g : Nat → Int}, l ≤ L → Vm q (2 ^ L) f g → Vm q (2 ^ L) (fromL q iv L l f) (fromL q iv L l g) := by
  intro l
  induction l with
  | zero => intro f g _ h; exact h
  | succ l ih => intro f g hl h; exact ih (by omega) (fromF_congr (halves (by omega)).2.1 (halves (by omega)).1 h)

theorem toL_scale {by_ : Nat → Nat → Int} {L : Nat} (c : Int) : ∀ {l : Nat} (f : Nat → Int), l ≤ L → Vm q (2 ^ L) (toL q by_ L l fun p => c * f p) (fun p => c * toL q by_ L l f p) := by
  intro l
  induction l with
  | zero => intro f _; exact Vm.refl _
  | succ l ih => intro f hl; exact (toF_congr (halves (by omega)).2.1 (halves (by omega)).1 (ih f (by omega))).trans (toF_scale c _)

theorem fromL_scale {iv : Nat → Nat → Int} {L : Nat} (c : Int) : ∀ {l : Nat} (f : Nat → Int), l ≤ L → Vm q (2 ^ L) (fromL q iv L l fun p => c * f p) (fun p => c * fromL q iv L l f p) := by
  intro l
  induction l with
  | zero => intro f _; exact Vm.refl _
  | succ l ih =>
    intro f hl
    exact (fromL_congr (by omega) (fromF_scale (N := 2 ^ L) c f)).trans (ih _ (by omega))

/-- There and back. -/
theorem fromL_toL {by_ iv : Nat → Nat → Int} {L : Nat} : ∀ {d : Nat} (f : Nat → Int), d ≤ L → (∀ l b, l < d → b < 2 ^ l → Eqm q (iv l b * by_ l b) 1) →
    Vm q (2 ^ L) (fromL q iv L d (toL q by_ L d f)) (fun p => 2 ^ d * f p) := by
  intro d
  induction d with
  | zero => intro f _ _ p _; simp [fromL, toL]; exact Eqm.refl _ _
  | succ d ih =>
    intro f hd hi
    have H := halves (L := L) (l := d) (by omega)
    have h1 := fromL_congr (q := q) (iv := iv) (L := L) (l := d) (by omega) (fromF_toF (q := q) (by_ := by_ d) (iv := iv d) (f := toL q by_ L d f) H.2.1 H.1 (fun b hb => hi d b (by omega) (by rw [H.2.2.1] at hb; exact hb)))
    refine h1.trans ((fromL_scale (q := q) (iv := iv) 2 _ (by omega)).trans fun p hp => ?_)
    refine ((Eqm.refl q 2).mul (ih f (by omega) (fun l b hl hb => hi l b (by omega) hb) p hp)).trans (Eqm.of_eq ?_)
    rw [Int.pow_succ]; grind

/-- Back and there. -/
theorem toL_fromL {by_ iv : Nat → Nat → Int} {L : Nat} : ∀ {d : Nat} (f : Nat → Int), d ≤ L → (∀ l b, l < d → b < 2 ^ l → Eqm q (iv l b * by_ l b) 1) →
    Vm q (2 ^ L) (toL q by_ L d (fromL q iv L d f)) (fun p => 2 ^ d * f p) := by
  intro d
  induction d with
  | zero => intro f _ _ p _; simp [fromL, toL]; exact Eqm.refl _ _
  | succ d ih =>
    intro f hd hi
    have H := halves (L := L) (l := d) (by omega)
    have h1 := toF_congr (q := q) (by_ := by_ d) H.2.1 H.1 (ih (fromF q (iv d) (2 ^ (L - (d + 1))) f) (by omega) (fun l b hl hb => hi l b (by omega) hb))
    refine h1.trans ((toF_scale _ _).trans fun p hp => ?_)
    refine ((Eqm.refl q _).mul (toF_fromF (q := q) (by_ := by_ d) (iv := iv d) (f := f) H.2.1 H.1 (fun b hb => hi d b (by omega) (by rw [H.2.2.1] at hb; exact hb)) p hp)).trans (Eqm.of_eq ?_)
    rw [Int.pow_succ]; grind
end

/-! ### What the layers come to -/
theorem S_pairs (n : Nat) (f : Nat → Int) : S (2 * n) f = S n (fun k => f (2 * k) + f (2 * k + 1)) := by
  induction n with
  | zero => rfl
  | succ n ih => rw [Nat.mul_add, Nat.mul_one, S_succ, S_succ, ih, S_succ]; omega

/-- The number j of a vector's remainder modulo X ^ M - x: of n parts of M numbers. -/
def E (a : Nat → Int) (n M : Nat) (x : Int) (j : Nat) : Int := S n fun k => a (k * M + j) * x ^ k

theorem E_congr {q : Int} (a : Nat → Int) (n M : Nat) {x y : Int} (h : Eqm q x y) (j : Nat) : Eqm q (E a n M x j) (E a n M y j) :=
  Eqm.S fun _ _ => (Eqm.refl _ _).mul (h.pow _)

theorem E_step {q : Int} (a : Nat → Int) (n h : Nat) {x y : Int} (hx : Eqm q (x * x) y) (j : Nat) :
    Eqm q (E a (2 * n) h x j) (E a n (2 * h) y j + x * E a n (2 * h) y (j + h)) := by
  unfold E
  rw [S_pairs, ← S_mul, ← S_add]
  refine Eqm.S fun k _ => ?_
  have e1 : 2 * k * h + j = k * (2 * h) + j := by grind
  have e2 : (2 * k + 1) * h + j = k * (2 * h) + (j + h) := by grind
  rw [e1, e2, Int.pow_succ, Int.pow_mul, show x ^ 2 = x * x from by grind]
  have hk := hx.pow k
  refine ((Eqm.refl _ _).mul hk).add (Eqm.trans ?_ (Eqm.of_eq (?_ : a (k * (2 * h) + (j + h)) * (y ^ k * x) = _)))
  · exact (Eqm.refl _ _).mul (hk.mul (Eqm.refl _ _))
  · grind

/-- The power of the root that parts part b behind l layers of d. -/
def ex (d l b : Nat) : Nat := 2 ^ (d - l) * (2 * rev l b + 1)

theorem toL_E {q g : Int} {L d : Nat} (hd : d ≤ L) (hg : Eqm q (g ^ 2 ^ d) (-1)) {by_ : Nat → Nat → Int}
    (hby : ∀ l b, l < d → b < 2 ^ l → Eqm q (by_ l b) (g ^ rev d (2 ^ l + b))) (a : Nat → Int) : ∀ l, l ≤ d → ∀ p, p < 2 ^ L →
    Eqm q (toL q by_ L l a p) (E a (2 ^ l) (2 ^ (L - l)) (g ^ ex d l (p / 2 ^ (L - l))) (p % 2 ^ (L - l))) := by
  intro l
  induction l with
  | zero =>
    intro _ p hp
    simp only [toL, E, Nat.pow_zero, S_succ, S_zero, Nat.sub_zero, Nat.mod_eq_of_lt hp, Nat.zero_mul, Nat.zero_add, Int.pow_zero]
    exact Eqm.of_eq (by omega)
  | succ l ih =>
    intro hl p hp
    have ih := ih (by omega)
    obtain ⟨hN, h0, hdiv, h2⟩ := halves (L := L) (l := l) (by omega)
    rw [← h2] at ih
    have hT : toL q by_ L (l + 1) a p = toF q (by_ l) (2 ^ (L - (l + 1))) (toL q by_ L l a) p := rfl
    rw [hT]; clear hT
    generalize 2 ^ (L - (l + 1)) = h at *
    have hb : p / (2 * h) < 2 ^ l := by
      rw [← hdiv]
      obtain ⟨k, hk⟩ := hN
      rw [hk, Nat.mul_div_cancel _ (by omega)]
      exact Nat.div_lt_of_lt_mul (by rw [Nat.mul_comm, ← hk]; exact hp)
    have hs : rev d (2 ^ l + p / (2 * h)) = 2 ^ (d - (l + 1)) * (2 * rev l (p / (2 * h)) + 1) := by
      have := rev_high l (d - (l + 1)) (p / (2 * h)) hb
      rwa [show l + 1 + (d - (l + 1)) = d from by omega] at this
    have hB := hby l _ (by omega) hb
    rw [hs] at hB
    have hpw : 2 ^ (d - l) = 2 ^ (d - (l + 1)) * 2 := by rw [← Nat.pow_succ]; congr 1; omega
    have hx2 : ∀ x : Nat, 2 * x = x + x := fun x => by omega
    have hex : ex d l (p / (2 * h)) = 2 ^ (d - (l + 1)) * (2 * rev l (p / (2 * h)) + 1) + 2 ^ (d - (l + 1)) * (2 * rev l (p / (2 * h)) + 1) := by
      unfold ex
      rw [hpw, Nat.mul_comm _ 2, Nat.mul_assoc, hx2]
    rw [Nat.pow_succ, Nat.mul_comm (2 ^ l) 2]
    unfold toF
    by_cases hlt : p % (2 * h) < h
    · rw [if_pos hlt]
      have hm : p % h = p % (2 * h) := by
        have := Nat.mod_mod_of_dvd p (Nat.dvd_mul_left h 2)
        rw [← this, Nat.mod_eq_of_lt hlt]
      have hq : p / h = 2 * (p / (2 * h)) := by
        have h1 := Nat.div_add_mod p (2 * h)
        have e : p = h * (2 * (p / (2 * h))) + p % (2 * h) := by
          rw [← Nat.mul_assoc, Nat.mul_comm h 2]; omega
        rw [e, Nat.mul_add_div h0, Nat.div_eq_of_lt hlt, Nat.add_zero, ← e]
      have i1 := ih p hp
      have i2 := ih (p + h) (fellow hN hp hlt)
      rw [mod_add_half hlt, div_add_half hlt] at i2
      rw [hm, hq]
      have hex' : ex d (l + 1) (2 * (p / (2 * h))) = 2 ^ (d - (l + 1)) * (2 * rev l (p / (2 * h)) + 1) := by
        unfold ex; rw [rev_two]
      rw [hex']
      refine (Eqm.mod _ _).trans (Eqm.trans ?_ (E_step a (2 ^ l) h (y := g ^ ex d l (p / (2 * h))) ?_ _).symm)
      · exact i1.add (hB.mul i2)
      · rw [hex, Int.pow_add]; exact Eqm.refl _ _
    · rw [if_neg hlt]
      obtain ⟨h1, h3, h4⟩ := sub_half h0 hlt
      have h5 : p % (2 * h) < 2 * h := Nat.mod_lt _ (by omega)
      have hm : p % h = p % (2 * h) - h := by
        have := Nat.mod_mod_of_dvd p (Nat.dvd_mul_left h 2)
        rw [← this, Nat.mod_eq_sub_mod (by omega), Nat.mod_eq_of_lt (by omega)]
      have hq : p / h = 2 * (p / (2 * h)) + 1 := by
        have h1 := Nat.div_add_mod p (2 * h)
        have e1 : (2 * (p / (2 * h)) + 1) * h = 2 * h * (p / (2 * h)) + h := by grind
        have e2 : (2 * (p / (2 * h)) + 1 + 1) * h = 2 * h * (p / (2 * h)) + h + h := by grind
        exact Nat.div_eq_of_lt_le (by omega) (by omega)
      have i1 := ih p hp
      have i2 := ih (p - h) (by omega)
      rw [h3, h4] at i2
      rw [hm, hq]
      have hex' : ex d (l + 1) (2 * (p / (2 * h)) + 1) = 2 ^ d + 2 ^ (d - (l + 1)) * (2 * rev l (p / (2 * h)) + 1) := by
        unfold ex
        rw [rev_two1]
        have : 2 ^ d = 2 ^ (d - (l + 1)) * (2 * 2 ^ l) := by
          rw [show 2 * 2 ^ l = 2 ^ (l + 1) from by rw [Nat.pow_succ]; omega, ← Nat.pow_add]; congr 1; omega
        rw [this, ← Nat.mul_add]
        congr 1; omega
      rw [hex', Int.pow_add]
      generalize hgs : g ^ (2 ^ (d - (l + 1)) * (2 * rev l (p / (2 * h)) + 1)) = s at *
      have hgy : g ^ ex d l (p / (2 * h)) = s * s := by rw [hex, Int.pow_add, hgs]
      have hneg : Eqm q (g ^ 2 ^ d * s) (-s) := (hg.mul (Eqm.refl _ _)).trans (Eqm.of_eq (by omega))
      refine (Eqm.mod _ _).trans (Eqm.trans ?_ (E_step a (2 ^ l) h (x := g ^ 2 ^ d * s) (y := g ^ ex d l (p / (2 * h))) ?_ _).symm)
      · rw [Nat.sub_add_cancel (by omega)]
        refine (i2.sub (hB.mul i1)).trans ?_
        refine Eqm.trans (Eqm.of_eq ?_) ((Eqm.refl _ _).add (hneg.mul (Eqm.refl _ _)).symm)
        grind
      · rw [hgy]
        refine (hneg.mul hneg).trans (Eqm.of_eq ?_)
        grind
end Go.Proofs.Pl
