/- Rings in plain Lean: their numbers, how often they part, their roots. No program in sight. -/
import Derived.Test.YtmobicccdmfnaaaDoorCnv
set_option linter.unusedVariables false
set_option linter.unusedSimpArgs false
namespace Go.Proofs.Pl

def qs : List Int := [17, 97, 257, 3329, 7681, 12289, 8380417]
def ns : List Int := [4, 8, 16, 32, 64, 128, 256]

/-- A power modulo m, by squares: 'f' bits at most. -/
def pm (m : Int) : Nat → Int → Nat → Int → Int
  | 0, _, _, out => out
  | f + 1, x, e, out => if e = 0 then out else pm m f (x * x % m) (e / 2) (if e % 2 = 1 then out * x % m else out)

theorem pm_eq (m : Int) : ∀ (f : Nat) (x : Int) (e : Nat) (out : Int), e < 2 ^ f → Eqm m (pm m f x e out) (out * x ^ e) := by
  intro f
  induction f with
  | zero => intro x e out he; have : e = 0 := by simp at he; exact he
            subst this; simp [pm]; exact Eqm.refl _ _
  | succ f ih =>
    intro x e out he
    rw [pm]
    by_cases h0 : e = 0
    · rw [if_pos h0, h0, Int.pow_zero, Int.mul_one]; exact Eqm.refl _ _
    · rw [if_neg h0]
      refine (ih _ _ _ (by rw [Nat.pow_succ] at he; omega)).trans ?_
      have hx : Eqm m ((x * x % m) ^ (e / 2)) ((x ^ 2) ^ (e / 2)) := (Eqm.trans (Eqm.mod _ _) (Eqm.of_eq (by grind))).pow _
      rw [← Int.pow_mul] at hx
      by_cases h1 : e % 2 = 1
      · rw [if_pos h1]
        refine ((Eqm.mod _ _).mul hx).trans (Eqm.of_eq ?_)
        have e2 : x ^ e = x ^ (2 * (e / 2)) * x := by rw [← Int.pow_succ]; congr 1; omega
        rw [e2]; grind
      · rw [if_neg h1]
        refine ((Eqm.refl _ _).mul hx).trans (Eqm.of_eq ?_)
        have e2 : x ^ e = x ^ (2 * (e / 2)) := by congr 1; omega
        rw [e2]

/-- A number's power modulo q, as it is reckoned. -/
theorem pm_mod (q x : Int) (f e : Nat) (he : e < 2 ^ f) : pm q f x e 1 % q = x ^ e % q := by
  have := (pm_eq q f x e 1 he).emod_eq
  rwa [Int.one_mul] at this

/-- How often a ring parts. -/
def dgo (q n : Int) : Nat → Nat → Nat
  | 0, d => d
  | f + 1, d => if (q - 1) % 2 ^ (d + 2) = 0 ∧ 2 ^ (d + 1) ≤ n then dgo q n f (d + 1) else d
def dep (q n : Int) : Nat := dgo q n 10 0

/-- The power of a ring's root that is -1. -/
def hp (q n : Int) : Nat := 2 ^ dep q n

/-- Is it the standards' own ring? -/
def std (q n : Int) : Bool := (q == 3329 || q == 8380417) && n == 256

/-- g is the ring's root. -/
def IsRoot (q n g : Int) : Prop :=
  if std q n then g = (if q = 3329 then 17 else 1753) else 2 ≤ g ∧ g ^ hp q n % q = q - 1 ∧ ∀ h, 2 ≤ h → h < g → h ^ hp q n % q ≠ q - 1

def lg (n : Int) : Nat := if n = 4 then 2 else if n = 8 then 3 else if n = 16 then 4 else if n = 32 then 5 else if n = 64 then 6 else if n = 128 then 7 else 8

/-- A number of a prime whose powers are roots of all its rings. -/
def wit (q : Int) : Int := if q = 17 then 3 else if q = 97 then 19 else if q = 257 then 3 else if q = 3329 then 17 else if q = 7681 then 62 else if q = 12289 then 3 else 1753
def witd (q : Int) : Nat := if q = 17 then 3 else if q = 97 then 4 else if q = 257 then 7 else if q = 3329 then 7 else 8

theorem tab_lg : (ns.all fun n => n == 2 ^ lg n) = true := by decide +kernel
theorem tab_dep : (qs.all fun q => ns.all fun n => decide (1 ≤ dep q n) && decide (dep q n ≤ lg n) && decide (dep q n ≤ witd q) && (q - 1) % 2 ^ (dep q n + 1) == 0 && decide (dep q n ≤ 8)) = true := by decide +kernel
theorem tab_wit : (qs.all fun q => pm q 10 (wit q) (2 ^ witd q) 1 % q == q - 1 && decide (2 ≤ wit q)) = true := by decide +kernel
theorem tab_std : (qs.all fun q => ns.all fun n => !std q n || pm q 10 (if q = 3329 then 17 else 1753) (hp q n) 1 % q == q - 1) = true := by decide +kernel
theorem tab_inv : (qs.all fun q => ns.all fun n => pm q 30 (2 ^ dep q n) (q - 2).toNat 1 * 2 ^ dep q n % q == 1) = true := by decide +kernel
theorem tab_q : (qs.all fun q => decide (17 ≤ q) && decide (q ≤ 8380417) && pm q 30 2 (q - 1).toNat 1 % q == 1) = true := by decide +kernel
theorem tab_n : (ns.all fun n => decide (4 ≤ n) && decide (n ≤ 256) && decide (2 ≤ lg n) && decide (lg n ≤ 8)) = true := by decide +kernel

section
variable {q n g : Int}
theorem of_all {α : Type} {l : List α} {p : α → Bool} (h : l.all p = true) {x : α} (hx : x ∈ l) : p x = true := List.all_eq_true.1 h x hx

theorem lg_eq (hn : n ∈ ns) : n = 2 ^ lg n := by simpa using of_all tab_lg hn
theorem n_facts (hn : n ∈ ns) : 4 ≤ n ∧ n ≤ 256 ∧ 2 ≤ lg n ∧ lg n ≤ 8 := by
  have := of_all tab_n hn
  simp only [Bool.and_eq_true, decide_eq_true_eq] at this
  omega
theorem q_facts (hq : q ∈ qs) : 17 ≤ q ∧ q ≤ 8380417 := by
  have := of_all tab_q hq
  simp only [Bool.and_eq_true, decide_eq_true_eq] at this
  omega
theorem dep_facts (hq : q ∈ qs) (hn : n ∈ ns) : 1 ≤ dep q n ∧ dep q n ≤ lg n ∧ dep q n ≤ witd q ∧ (q - 1) % 2 ^ (dep q n + 1) = 0 ∧ dep q n ≤ 8 := by
  have := of_all (of_all tab_dep hq) hn
  simp only [Bool.and_eq_true, decide_eq_true_eq, beq_iff_eq] at this
  obtain ⟨⟨⟨⟨a, b⟩, c⟩, d⟩, e⟩ := this
  exact ⟨a, b, c, d, e⟩

/-- Some number is a root. -/
theorem root_is (hq : q ∈ qs) (hn : n ∈ ns) : ∃ w, 2 ≤ w ∧ w < q ∧ w ^ hp q n % q = q - 1 := by
  have h1 := of_all tab_wit hq
  simp only [Bool.and_eq_true, decide_eq_true_eq, beq_iff_eq] at h1
  have hd := dep_facts hq hn
  have hq' := q_facts hq
  have hw : witd q ≤ 8 := by unfold witd; (repeat' split) <;> omega
  have h3 : wit q ^ 2 ^ witd q % q = q - 1 := by
    rw [← pm_mod q (wit q) 10 (2 ^ witd q) (Nat.pow_lt_pow_right (by omega) (by omega))]; exact h1.1
  have e : wit q ^ 2 ^ witd q = (wit q ^ 2 ^ (witd q - dep q n)) ^ hp q n := by
    unfold hp
    rw [← Int.pow_mul, ← Nat.pow_add]; congr 2; omega
  rw [e] at h3
  have h4 : ((wit q ^ 2 ^ (witd q - dep q n)) % q) ^ hp q n % q = q - 1 := by
    rw [← h3]; exact ((Eqm.mod _ _).pow _).emod_eq
  generalize wit q ^ 2 ^ (witd q - dep q n) = v at *
  have h5 := Int.emod_nonneg v (show q ≠ 0 by omega)
  have h6 := Int.emod_lt_of_pos v (show 0 < q by omega)
  refine ⟨v % q, ?_, h6, h4⟩
  have hp1 : hp q n ≠ 0 := by unfold hp; exact Nat.ne_of_gt (Nat.pow_pos (by omega))
  rcases (by omega : v % q = 0 ∨ v % q = 1 ∨ 2 ≤ v % q) with h | h | h
  · rw [h, Int.zero_pow hp1] at h4; simp at h4; omega
  · rw [h, Int.one_pow, Int.emod_eq_of_lt (by omega) (by omega)] at h4; omega
  · exact h

theorem least (P : Int → Prop) : ∀ (k : Nat) (w : Int), 2 ≤ w → w < 2 + k → P w → ∃ g, 2 ≤ g ∧ g ≤ w ∧ P g ∧ ∀ h, 2 ≤ h → h < g → ¬ P h := by
  intro k
  induction k with
  | zero => intro w h2 hk _; omega
  | succ k ih =>
    intro w h2 hk hw
    by_cases hs : ∃ v, 2 ≤ v ∧ v < w ∧ P v
    · obtain ⟨v, a, b, c⟩ := hs
      obtain ⟨g, h1, h2, h3, h4⟩ := ih v a (by omega) c
      exact ⟨g, h1, by omega, h3, h4⟩
    · exact ⟨w, h2, by omega, hw, fun h a b c => hs ⟨h, a, b, c⟩⟩

theorem isRoot_is (hq : q ∈ qs) (hn : n ∈ ns) : ∃ g, IsRoot q n g ∧ 2 ≤ g ∧ g < q := by
  unfold IsRoot
  by_cases hs : std q n = true
  · simp only [if_pos hs]
    refine ⟨_, rfl, ?_⟩
    unfold std at hs
    simp only [Bool.and_eq_true, Bool.or_eq_true, beq_iff_eq] at hs
    by_cases h : q = 3329
    · rw [if_pos h]; omega
    · rw [if_neg h]; omega
  · simp only [if_neg hs]
    obtain ⟨w, h1, h2, h3⟩ := root_is hq hn
    obtain ⟨g, a, b, c, d⟩ := least (fun g => g ^ hp q n % q = q - 1) w.toNat w h1 (by omega) h3
    exact ⟨g, ⟨a, c, d⟩, a, by omega⟩

theorem isRoot_one {h : Int} (hg : IsRoot q n g) (hh : IsRoot q n h) : g = h := by
  unfold IsRoot at *
  by_cases hs : std q n = true
  · rw [if_pos hs] at hg hh; rw [hg, hh]
  · rw [if_neg hs] at hg hh
    obtain ⟨a, b, c⟩ := hg
    obtain ⟨a', b', c'⟩ := hh
    by_cases h1 : g < h
    · exact absurd b (c' g a h1)
    · by_cases h2 : h < g
      · exact absurd b' (c h a' h2)
      · omega

theorem root_pow (hq : q ∈ qs) (hn : n ∈ ns) (hg : IsRoot q n g) : Eqm q (g ^ 2 ^ dep q n) (-1) := by
  have hq' := q_facts hq
  have hd := dep_facts hq hn
  have : g ^ hp q n % q = q - 1 := by
    unfold IsRoot at hg
    by_cases hs : std q n = true
    · rw [if_pos hs] at hg
      have h1 := of_all (of_all tab_std hq) hn
      rw [hs] at h1
      simp only [Bool.not_true, Bool.false_or, beq_iff_eq] at h1
      rw [hg, ← pm_mod q _ 10 (hp q n) (Nat.pow_lt_pow_right (by omega) (by omega))]; exact h1
    · rw [if_neg hs] at hg; exact hg.2.1
  apply Eqm.of_emod
  unfold hp at this
  rw [this]
  have : (-1 : Int) % q = (q - 1) % q := by
    have e : q - 1 = -1 + q := by omega
    rw [e, Int.add_emod_right]
  rw [this, Int.emod_eq_of_lt (by omega) (by omega)]

theorem root_round (hq : q ∈ qs) (hn : n ∈ ns) (hg : IsRoot q n g) (k : Nat) : Eqm q (g ^ (2 ^ (dep q n + 1) * k)) 1 := by
  have h := root_pow hq hn hg
  have h2 := (h.mul h).pow k
  rw [Int.pow_mul, Nat.pow_succ, Int.pow_mul, show ∀ x : Int, x ^ 2 = x * x from fun x => by grind]
  refine h2.trans (Eqm.of_eq ?_)
  rw [show (-1 : Int) * -1 = 1 from rfl, Int.one_pow]

/-- What a power of a root is times its own power q - 2. -/
theorem root_inv (hq : q ∈ qs) (hn : n ∈ ns) (hg : IsRoot q n g) (e : Nat) : Eqm q ((g ^ e % q) ^ (q - 2).toNat % q * (g ^ e % q)) 1 := by
  have hq' := q_facts hq
  have hd := (dep_facts hq hn).2.2.2.1
  refine ((Eqm.mod _ _).mul (Eqm.refl _ _)).trans ?_
  rw [← Int.pow_succ, show (q - 2).toNat.succ = (q - 1).toNat from by omega]
  refine ((Eqm.mod _ _).pow _).trans ?_
  rw [← Int.pow_mul]
  obtain ⟨k, hk⟩ := Int.dvd_of_emod_eq_zero hd
  have hp : (0 : Int) < 2 ^ (dep q n + 1) := Int.pow_pos (by omega)
  have hk0 : 0 ≤ k := by
    apply Int.not_lt.1; intro h
    have := Int.mul_neg_of_pos_of_neg hp h
    omega
  have e1 : (q - 1).toNat = 2 ^ (dep q n + 1) * k.toNat := by
    have : ((q - 1).toNat : Int) = ((2 ^ (dep q n + 1) * k.toNat : Nat) : Int) := by
      rw [Int.toNat_of_nonneg (by omega), hk, Int.natCast_mul, Int.toNat_of_nonneg hk0]; simp
    exact_mod_cast this
  rw [e1, show e * (2 ^ (dep q n + 1) * k.toNat) = 2 ^ (dep q n + 1) * (e * k.toNat) from by grind]
  exact root_round hq hn hg _

theorem two_inv (hq : q ∈ qs) (hn : n ∈ ns) : Eqm q ((2 ^ dep q n) ^ (q - 2).toNat % q * 2 ^ dep q n) 1 := by
  have hq' := q_facts hq
  have h := of_all (of_all tab_inv hq) hn
  simp only [beq_iff_eq] at h
  have h1 := pm_eq q 30 (2 ^ dep q n) (q - 2).toNat 1 (by omega)
  rw [Int.one_mul] at h1
  refine ((Eqm.mod _ _).mul (Eqm.refl _ _)).trans ((h1.symm.mul (Eqm.refl _ _)).trans (Eqm.of_emod ?_))
  rw [h, Int.emod_eq_of_lt (by omega) (by omega)]
end
end Go.Proofs.Pl
